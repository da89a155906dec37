/- A piece of a body, by the number of its first region. RiskExact: what its rounds share. Printed by wip/gen/l39ex.py. RiskExact: the second nest of rounds. Printed by wip/gen/l39ex.py. RiskExact: the rounds of the first nest. Printed by wip/gen/l39ex.py. RiskExact: the walk. Printed by wip/gen/l39ex.py. -/
import Derived.Test.YtpoidaenkjjdfaaProg
import Derived.Test.YtpoidaenkjjdfaaZRxA
import Derived.Test.YtpoidaenkjjdfaaZSrcBent
import Derived.Test.YtpoidaenkjjdfaaZSrcOdd
import Derived.Test.YtpoidaenkjjdfaaZRegP
import Derived.Test.YtpoidaenkjjdfaaZRf9G
import Derived.Test.YtpoidaenkjjdfaaZRf9E
import Derived.Test.YtpoidaenkjjdfaaZRgK
import Derived.Test.YtpoidaenkjjdfaaZL39P
import Derived.Test.YtpoidaenkjjdfaaZL39Base
import Derived.Deep.CutRange
namespace Go.Proofs.Ytpoidaenkjjdfaa
/-- the piece of a body that begins with a region: that region, and what follows it -/
def seqAt (r : Nat) : Code → Option (Code × Code)
  | .seq a b => match (match a with
      | .region id _ _ => if id = r then some (a, b) else none
      | _ => none) with
    | some x => some x
    | none => match seqAt r a with
      | some x => some x
      | none => seqAt r b
  | .block _ c => seqAt r c
  | .loop c => seqAt r c
  | .scope c => seqAt r c
  | .cond _ a b => match seqAt r a with
    | some x => some x
    | none => seqAt r b
  | _ => none
end Go.Proofs.Ytpoidaenkjjdfaa
namespace Go.Proofs.Ytpoidaenkjjdfaa
open Go.RowKit
set_option linter.unusedVariables false
set_option linter.unusedSimpArgs false
theorem prL_lb (R : Reg) (y0 : Int) (L : List Int) (hL : L.length ≤ 1000000) : (prL R y0 L).length ≤ 1000000 := by
  unfold prL; split
  · simp; exact hL
  · simp
theorem fsL_lb (R : Reg) (y0 n : Int) : (fsL R y0 n).length ≤ 1000000 := by
  by_cases h : fsE R y0 n = 0
  · rw [fsL_len h]; have := (fsE_zero h).2.2; omega
  · unfold fsL; rw [if_neg h]; simp
theorem shL_lb (b : Int) (L : List Int) (hL : L.length ≤ 1000000) : (shL b L).length ≤ 1000000 := by rw [shL_len]; exact hL
theorem sl_ints {w : World} {base : Nat} {v : Value} {n : Nat} {L : List Int} (h : w.ownsRow base 3 1 v n (flatE encI L)) (hn : L.length = n) : Sl 1 encI (fun b => base ≤ b) w v L := Sl.own encI_len h hn (fun b hb => hb)
theorem RgIn.belowB {P : Nat → Prop} {B : Nat} {w w' : World} {vs vh vm : Value} {R : Reg} (h : RgIn P w vs vh vm R) (hb : Below B w w') (hp : ∀ b, P b → b < B) : RgIn P w' vs vh vm R := ⟨h.S.belowB hb hp, h.H.belowB hb hp, h.M.belowB hb hp⟩
/-- the source's and the raw registers and rates, as they stand in every round -/
structure RkS (sb A B : Nat) (w wx : World) (vs vh vm a0 a1 a2 : Value) (R RR : Reg) (v4 v6 rv : Value) (L4 L6 RL : List Int) : Prop where
  b0 : wx.heap[A]? = some (.cells #[vs, vh, vm] 27 (0, 0))
  b2 : wx.heap[B]? = some (.cells #[a0, a1, a2] 27 (0, 0))
  rg : RgIn (fun b => b ≠ sb) wx a0 a1 a2 R
  rr : RgIn (fun b => b ≠ sb) wx vs vh vm RR
  s1 : Sl 1 encI (fun b => b ≠ sb) wx v4 L4
  s2 : Sl 1 encI (fun b => b ≠ sb) wx v6 L6
  s3 : Sl 1 encI (fun b => b ≠ sb) wx rv RL
  so : SrcOk wx sb
  bl : Below w.heap.size w wx
  lA : A < sb
  lB : sb < B
  lw : w.heap.size ≤ A
section
variable {sb A B : Nat} {w wx wy : World} {vs vh vm a0 a1 a2 : Value} {R RR : Reg} {v4 v6 rv : Value} {L4 L6 RL : List Int}
theorem RkS.grown (h : RkS sb A B w wx vs vh vm a0 a1 a2 R RR v4 v6 rv L4 L6 RL) (hG : wx.grownBy wy (some sb)) (hS : SrcOk wy sb) : RkS sb A B w wy vs vh vm a0 a1 a2 R RR v4 v6 rv L4 L6 RL := by
  obtain ⟨h1, h2, h3, h4, h5, h6, h7, h8, h9, l1, l2, l3⟩ := h
  exact ⟨heap_gr hG (by omega) h1, heap_gr hG (by omega) h2, h3.grown hG (fun b hb => hb), h4.grown hG (fun b hb => hb), h5.grown hG (fun b hb => hb), h6.grown hG (fun b hb => hb), h7.grown hG (fun b hb => hb), hS, h9.trans (below_of_grown hG (by omega) h9.size), l1, l2, l3⟩
theorem RkS.below (h : RkS sb A B w wx vs vh vm a0 a1 a2 R RR v4 v6 rv L4 L6 RL) (hb : Below wx.heap.size wx wy) : RkS sb A B w wy vs vh vm a0 a1 a2 R RR v4 v6 rv L4 L6 RL := h.grown (gr_of_below hb sb) (srcOk_below h.so hb (srcOk_lt h.so))
end
/-- the boxes of a round: the register, the numbers -/
structure RkK (B KB : Nat) (x w : World) (yb kb : Obj) : Prop where
  bl : Below x.heap.size x w
  y : w.heap[B]? = some yb
  k : w.heap[KB]? = some kb
theorem RkK.up {B KB : Nat} {x w w' : World} {yb kb : Obj} (h : RkK B KB x w yb kb) (hb : Below w.heap.size w w') : RkK B KB x w' yb kb := ⟨bup h.bl hb, heap_bl hb h.y, heap_bl hb h.k⟩
end Go.Proofs.Ytpoidaenkjjdfaa
namespace Go.Proofs.Ytpoidaenkjjdfaa
open Go.RowKit
set_option linter.unusedVariables false
set_option linter.unusedSimpArgs false
noncomputable def ca_kB : Code := ((Try.f5.body.bind (seqAt 27)).getD (.skip, .skip)).1
noncomputable def cb_kB : Code := ((Try.f5.body.bind (seqAt 27)).getD (.skip, .skip)).2
set_option maxHeartbeats 64000000 in
set_option maxRecDepth 1000000 in
theorem kB {K : Act → World → Prop} {Q : Exit → Act → World → Prop} {sb : Nat} {w w3 V : World} {r0 r1 r2 a0 a1 a2 : Option Addr} {rn0 rc0 rn1 rc1 rn2 rc2 n0 c0 n1 c1 n2 c2 : Nat} {R RR : Reg} {o4 o7 l0 : Option Addr} {c4 c7 ln lc : Nat} {L4 L5 RL : List Int} {u : Int} {first years bby day : Int} {z0 z1 z2 z7 z9 z10 z11 z12 z13 z14 z17 z18 z19 z20 z21 z22 z23 z24 z25 z26 z27 z28 z29 z30 z31 z32 z33 z34 z35 z36 z37 z38 z39 z40 z41 z42 z43 z44 z45 z46 z47 z48 z49 z50 z51 z52 z53 z54 z55 z56 z57 z58 z59 z60 z61 z62 z63 z64 z65 z66 z67 z68 z69 z70 z71 z72 z73 z74 z75 z76 z77 z78 z79 z80 z81 z82 z83 z84 z85 z86 z87 z88 z89 z90 z91 z92 z93 z94 z95 z96 z97 z98 z99 z100 z101 z102 z103 z104 z105 z106 z107 z108 z109 z110 z111 z112 z113 z114 z115 z116 z117 z118 z119 z120 z121 z122 z123 z124 z125 z126 z127 z128 z129 z130 z131 z132 z133 z134 z135 z136 z137 z138 z139 z140 z141 z142 z143 z144 z145 z146 z147 z148 z149 z150 z151 z152 z153 z154 z155 z156 z157 z158 z159 z160 z161 z162 z163 z164 z165 z166 z167 z168 z169 z170 z171 z172 z173 z174 z175 z176 z177 z178 z179 z180 z181 z182 z183 z184 z185 z186 z187 z188 z189 z190 z191 z192 z193 z194 z195 z196 z197 z198 z199 z200 z201 z202 z203 z204 z205 z206 z207 z208 z209 z210 z211 z212 z213 z214 z215 z216 z217 z218 z219 z220 z221 z222 z223 z224 z225 z226 z227 z228 z229 z230 z231 z232 z233 z234 z235 z236 z237 z238 z239 z240 z241 z242 z243 z244 z245 z246 z247 z248 z249 z250 z251 z252 z253 z254 z255 z256 z257 z258 z259 z260 z261 z262 z263 z264 z265 z266 z267 z268 z269 z270 z271 z272 z273 z274 z275 z276 z277 z278 z279 z280 z281 z282 z283 z284 z285 z286 z287 z288 z289 z290 z291 z292 z293 z294 z295 z296 z297 z298 z299 z300 z301 z302 z303 z304 z305 z306 : Value} (HSTv : Hid (RkS sb w.heap.size w3.heap.size w V (.slice r0 rn0 rc0) (.slice r1 rn1 rc1) (.slice r2 rn2 rc2) (.slice a0 n0 c0) (.slice a1 n1 c1) (.slice a2 n2 c2) R RR (.slice o4 L4.length c4) (.slice o7 (L5.length + 1) c7) (.slice l0 ln lc) L4 (L5 ++ [u]) RL)) (HBS : Hid ((1 ≤ R.secs.length ∧ R.secs.length ≤ 1000) ∧ R.hs.length ≤ 1000 ∧ R.ms.length ≤ 1000)) (HLB : Hid (LB RR)) (HLR : Hid (LB R))
    (hK : ∀ a w, Code.wp Try.prog cb_kB Q a w → K a w)
    (hQ : ∀ (v14 v35 v37 v38 v39 v40 v41 v42 v43 v44 v45 v186 v187 v188 v189 v190 v191 v192 v193 v194 v195 v196 v197 v198 v199 v200 v201 v202 v203 v204 v205 v206 v207 v208 v209 v210 v211 v212 v213 v214 v215 v216 v217 v218 v219 v220 v221 v222 v223 v224 v225 v226 v227 v228 v229 v230 v231 v232 v233 v234 v235 v236 v237 v238 v239 v240 v241 v242 v243 v244 v245 v246 v247 v248 v249 v250 v251 v252 v253 v254 v255 v256 v257 v258 v259 v260 v261 v262 v263 v264 v265 v266 v267 v268 v269 v270 v271 v272 v273 v274 v275 v276 v277 v278 v279 v280 v281 v282 v283 v284 v285 v286 v287 v288 v289 v290 v291 v292 v293 v294 v295 v296 v297 v298 v299 v300 v301 v302 v303 v304 v305 : Value) (w' : World), (Below w.heap.size w w') → Q .normal ⟨#[z0, z1, z2, .int .i64 first, .int .i64 years, .int .i64 bby, .int .i64 day, z7, .pointer (some ⟨w.heap.size, 0, none⟩), z9, z10, z11, z12, z13, v14, .pointer (some ⟨sb, 0, none⟩), .pointer (some ⟨w3.heap.size, 0, none⟩), z17, z18, z19, z20, z21, z22, z23, z24, z25, z26, z27, z28, z29, z30, z31, z32, z33, z34, v35, z36, v37, v38, v39, v40, v41, v42, v43, v44, v45, z46, z47, z48, z49, z50, z51, z52, z53, z54, z55, z56, z57, z58, z59, z60, z61, z62, z63, z64, z65, z66, z67, z68, z69, z70, z71, z72, z73, z74, z75, z76, z77, z78, z79, z80, z81, z82, z83, z84, z85, z86, z87, z88, z89, z90, z91, z92, z93, z94, z95, z96, z97, z98, z99, z100, z101, z102, z103, z104, z105, z106, z107, z108, z109, z110, z111, z112, z113, z114, z115, z116, z117, z118, z119, z120, z121, z122, z123, z124, z125, z126, z127, z128, z129, z130, z131, z132, z133, z134, z135, z136, z137, z138, z139, z140, z141, z142, z143, z144, z145, z146, z147, z148, z149, z150, z151, z152, z153, z154, z155, z156, z157, z158, z159, z160, z161, z162, z163, z164, z165, z166, z167, z168, z169, z170, z171, z172, z173, z174, z175, z176, z177, z178, z179, z180, z181, z182, z183, z184, z185, v186, v187, v188, v189, v190, v191, v192, v193, v194, v195, v196, v197, v198, v199, v200, v201, v202, v203, v204, v205, v206, v207, v208, v209, v210, v211, v212, v213, v214, v215, v216, v217, v218, v219, v220, v221, v222, v223, v224, v225, v226, v227, v228, v229, v230, v231, v232, v233, v234, v235, v236, v237, v238, v239, v240, v241, v242, v243, v244, v245, v246, v247, v248, v249, v250, v251, v252, v253, v254, v255, v256, v257, v258, v259, v260, v261, v262, v263, v264, v265, v266, v267, v268, v269, v270, v271, v272, v273, v274, v275, v276, v277, v278, v279, v280, v281, v282, v283, v284, v285, v286, v287, v288, v289, v290, v291, v292, v293, v294, v295, v296, v297, v298, v299, v300, v301, v302, v303, v304, v305, z306], []⟩ w') :
    Code.wp Try.prog ca_kB (Exit.then K Q) ⟨#[z0, z1, z2, .int .i64 first, .int .i64 years, .int .i64 bby, .int .i64 day, z7, .pointer (some ⟨w.heap.size, 0, none⟩), z9, z10, z11, z12, z13, z14, .pointer (some ⟨sb, 0, none⟩), .pointer (some ⟨w3.heap.size, 0, none⟩), z17, z18, z19, z20, z21, z22, z23, z24, z25, z26, z27, z28, z29, z30, z31, z32, z33, z34, z35, z36, z37, z38, z39, z40, z41, z42, z43, z44, z45, z46, z47, z48, z49, z50, z51, z52, z53, z54, z55, z56, z57, z58, z59, z60, z61, z62, z63, z64, z65, z66, z67, z68, z69, z70, z71, z72, z73, z74, z75, z76, z77, z78, z79, z80, z81, z82, z83, z84, z85, z86, z87, z88, z89, z90, z91, z92, z93, z94, z95, z96, z97, z98, z99, z100, z101, z102, z103, z104, z105, z106, z107, z108, z109, z110, z111, z112, z113, z114, z115, z116, z117, z118, z119, z120, z121, z122, z123, z124, z125, z126, z127, z128, z129, z130, z131, z132, z133, z134, z135, z136, z137, z138, z139, z140, z141, z142, z143, z144, z145, z146, z147, z148, z149, z150, z151, z152, z153, z154, z155, z156, z157, z158, z159, z160, z161, z162, z163, z164, z165, z166, z167, z168, z169, z170, z171, z172, z173, z174, z175, z176, z177, z178, z179, z180, z181, z182, z183, z184, z185, z186, z187, z188, z189, z190, z191, z192, z193, z194, z195, z196, z197, z198, z199, z200, z201, z202, z203, z204, z205, z206, z207, z208, z209, z210, z211, z212, z213, z214, z215, z216, z217, z218, z219, z220, z221, z222, z223, z224, z225, z226, z227, z228, z229, z230, z231, z232, z233, z234, z235, z236, z237, z238, z239, z240, z241, z242, z243, z244, z245, z246, z247, z248, z249, z250, z251, z252, z253, z254, z255, z256, z257, z258, z259, z260, z261, z262, z263, z264, z265, z266, z267, z268, z269, z270, z271, z272, z273, z274, z275, z276, z277, z278, z279, z280, z281, z282, z283, z284, z285, z286, z287, z288, z289, z290, z291, z292, z293, z294, z295, z296, z297, z298, z299, z300, z301, z302, z303, z304, z305, z306], []⟩ V := by
  obtain ⟨ca, hca⟩ : ∃ c, c = ca_kB := ⟨_, rfl⟩
  obtain ⟨cb, hcb⟩ : ∃ c, c = cb_kB := ⟨_, rfl⟩
  rw [← hca]
  rw [← hcb] at hK
  conv at hca => rhs; whnf
  conv at hcb => rhs; whnf
  subst hca
  subst hcb
  dsimp only
  have b0 := cell_heap (i := 0) (HSTv.out.b2) rfl; have b1 := cell_heap (i := 1) (HSTv.out.b2) rfl; have b2 := cell_heap (i := 2) (HSTv.out.b2) rfl
  have q0 := cell_heap (i := 0) (HSTv.out.b0) rfl; have q1 := cell_heap (i := 1) (HSTv.out.b0) rfl; have q2 := cell_heap (i := 2) (HSTv.out.b0) rfl
  have HBN := Lib.hid (bent_any (fun b => b ≠ sb) sb _ _ _ R V.drew (srcOk_drewN HSTv.out.so 1) (HSTv.out.rg.below (bdr brefl)) (fun b h => h) HBS.out.1 HBS.out.2.1 HBS.out.2.2)
  go_upto_region 27 with fail
  go_cut [191, 192] from 186 to 305 (fun sA sI wx => ∃ (u0 u1 u2 : Option Addr) (m0 d0 m1 d1 m2 d2 : Nat) (R' : Reg), sA = .agg #[.slice a0 n0 c0, .slice a1 n1 c1, .slice a2 n2 c2, .slice u0 m0 d0, .slice u1 m1 d1, .slice u2 m2 d2, .slice r0 rn0 rc0, .slice r1 rn1 rc1, .slice r2 rn2 rc2] ∧ sI = .int .i64 0 ∧ LB R' ∧ RgIn (fun b => b ≠ sb) wx (.slice u0 m0 d0) (.slice u1 m1 d1) (.slice u2 m2 d2) R' ∧ SrcOk wx sb ∧ V.grownBy wx (some sb))
  case first =>
    go_region_held3 (fun w' => w'.cell? ⟨w3.heap.size, 0, none⟩ = some (.slice a0 n0 c0) ∧ w'.cell? ⟨w3.heap.size, 1, none⟩ = some (.slice a1 n1 c1) ∧ w'.cell? ⟨w3.heap.size, 2, none⟩ = some (.slice a2 n2 c2) ∧ w'.cell? ⟨w.heap.size, 0, none⟩ = some (.slice r0 rn0 rc0) ∧ w'.cell? ⟨w.heap.size, 1, none⟩ = some (.slice r1 rn1 rc1) ∧ w'.cell? ⟨w.heap.size, 2, none⟩ = some (.slice r2 rn2 rc2)) (first | exact ⟨g0, g1, g2, kq0, kq1, kq2⟩ | exact ⟨b0, b1, b2, q0, q1, q2⟩ | go_keep) ((go_at_call 16; refine HBN.out.mono ?_; rintro e w9 ⟨v0, v1, v2, R', rfl, hl', hR9, hS9, hG9⟩; obtain ⟨u0, m0, d0, rfl, -, -, -⟩ := hR9.S.shape; obtain ⟨u1, m1, d1, rfl, -, -, -⟩ := hR9.H.shape; obtain ⟨u2, m2, d2, rfl, -, -, -⟩ := hR9.M.shape; have hG9' := grownBy_undrew hG9; have hst9 := HSTv.out.grown hG9' hS9; have HS9 := Lib.hid hS9; have HG9 := Lib.hid hG9'; have zlt := srcOk_lt HSTv.out.so; have HR9 := Lib.hid (hR9.mono (Q := fun b => b ≠ sb) (fun b h _ => by have : V.drew.heap.size = V.heap.size := rfl; omega)); have HL9 := Lib.hid hl'; have g0 := cell_heap (i := 0) (hst9.b2) rfl; have g1 := cell_heap (i := 1) (hst9.b2) rfl; have g2 := cell_heap (i := 2) (hst9.b2) rfl; have kq0 := cell_heap (i := 0) (hst9.b0) rfl; have kq1 := cell_heap (i := 1) (hst9.b0) rfl; have kq2 := cell_heap (i := 2) (hst9.b0) rfl; clear hR9 hS9 hG9 hG9' hst9 hl'))
    all_goals (go_wp2_with fail; go_meet)
    all_goals exact ⟨u0, u1, u2, m0, d0, m1, d1, m2, d2, R', rfl, rfl, (by have h := HL9.out; have h1 := HBS.out; exact ⟨by omega, by omega, by omega⟩), HR9.out, HS9.out, HG9.out⟩
  case rest =>
    obtain ⟨u0, u1, u2, m0, d0, m1, d1, m2, d2, R', rfl, rfl, hlb', hR', hso', hG'⟩ := hcut
    clear b0 b1 b2 q0 q1 q2 HBN
    obtain ⟨Vc, hWc⟩ : ∃ X, X = wc := ⟨_, rfl⟩
    subst hWc
    have HSTvc := Lib.hid (HSTv.out.grown hG' hso')
    have HRB := Lib.hid hR'
    have HLB' := Lib.hid hlb'
    have HGc := Lib.hid hG'
    clear hlb' hR' hso' hG'
    go_wp2_with fail
    go_loopw [192] (fun kv wr => ∃ i : Nat, i ≤ 3 ∧ kv = .int .i64 i ∧ Vc.grownBy wr (some sb) ∧ SrcOk wr sb) (fun kv _ => 3 - (intOf kv).toNat)
    case atStart => exact ⟨0, by omega, rfl, gr_of_below brefl sb, HSTvc.out.so⟩
    case round =>
      obtain ⟨i, hi, rfl, hGr2, hSr2⟩ := hrel
      obtain ⟨V2, hV2⟩ : ∃ X, X = wr := ⟨_, rfl⟩
      subst hV2
      have hst2 := HSTvc.out.grown hGr2 hSr2
      by_cases hlt4 : i < 3
      · have hy : ∃ (y0 y1 y2 : Option Addr) (p0 t0 p1 t1 p2 t2 : Nat) (Y : Reg), LB Y ∧ RgIn (fun b => b ≠ sb) V2 (.slice y0 p0 t0) (.slice y1 p1 t1) (.slice y2 p2 t2) Y ∧ ∀ W : World, (Instr.index 42 (.agg #[.slice a0 n0 c0, .slice a1 n1 c1, .slice a2 n2 c2, .slice u0 m0 d0, .slice u1 m1 d1, .slice u2 m2 d2, .slice r0 rn0 rc0, .slice r1 rn1 rc1, .slice r2 rn2 rc2]) (.int .i64 (i : Int))).run Try.prog W = .ok (.agg #[.slice y0 p0 t0, .slice y1 p1 t1, .slice y2 p2 t2]) W := by
          rcases (show i = 0 ∨ i = 1 ∨ i = 2 by omega) with rfl | rfl | rfl
          · exact ⟨a0, a1, a2, n0, c0, n1, c1, n2, c2, R, HLR.out, hst2.rg, fun W => by kernel_rfl⟩
          · exact ⟨u0, u1, u2, m0, d0, m1, d1, m2, d2, R', HLB'.out, HRB.out.grown hGr2 (fun b h => h), fun W => by kernel_rfl⟩
          · exact ⟨r0, r1, r2, rn0, rc0, rn1, rc1, rn2, rc2, RR, HLB.out, hst2.rr, fun W => by kernel_rfl⟩
        obtain ⟨y0, y1, y2, p0, t0, p1, t1, p2, t2, Y, hlbY, hrY, hix⟩ := hy
        have HSTi := Lib.hid hst2
        have HGi := Lib.hid hGr2
        have HRY := Lib.hid hrY
        have HLY := Lib.hid hlbY
        have hsV := srcOk_lt hSr2
        have hlt4' : ((i : Int) < 3) = True := eq_true (by omega)
        have hl1 := hlbY.1
        have hl2 := hlbY.2.1
        have hl3 := hlbY.2.2
        clear hst2 hGr2 hSr2 hlbY hrY
        go_upto_region 30 with fail
        obtain ⟨W1, hW1⟩ : ∃ X, V2.alloc (.cells #[.slice y0 p0 t0, .slice y1 p1 t1, .slice y2 p2 t2] 27 (0, 0)) = X := ⟨_, rfl⟩
        have hy1 : W1.heap[V2.heap.size]? = some (.cells #[.slice y0 p0 t0, .slice y1 p1 t1, .slice y2 p2 t2] 27 (0, 0)) := by rw [← hW1]; exact heap_alloc_new V2 _
        have hb1 : Below V2.heap.size V2 W1 := by rw [← hW1]; exact bal brefl _
        have zW1 : W1.heap.size = V2.heap.size + 1 := by rw [← hW1]; simp
        rw [hW1]
        obtain ⟨B, hB⟩ : ∃ B, V2.heap.size = B := ⟨_, rfl⟩
        rw [hB] at hy1 zW1 ⊢
        have HY1 := Lib.hid hy1
        have HS1 := Lib.hid (srcOk_below HSTi.out.so hb1 hsV)
        have HG1 := Lib.hid (grownBy_trans HGi.out (gr_of_below hb1 sb))
        have HR1 := Lib.hid ((HRY.out.mono (Q := fun b => b ≠ sb ∧ b < B) (fun b h hl => ⟨h, by omega⟩)).below hb1)
        have zsb : sb < B := by omega
        clear hy1 hW1 hb1 hB HRY hix
        have hs1 := HS1.out
        go_wp2_with fail
        refine (n_any sb 3 _ hs1 (by omega)).mono ?_
        rintro e v1 ⟨n1, -, rfl, hS1, hG1⟩
        go_wp2_with fail
        refine (range_any sb 0 6 _ hS1 (by decide) (by decide) (by decide)).mono ?_
        rintro e v2 ⟨n2, -, rfl, hS2, hG2⟩
        go_wp2_with fail
        refine (n_any sb 900 _ hS2 (by omega)).mono ?_
        rintro e v3 ⟨n3, -, rfl, hS3, hG3⟩
        go_wp2_with fail
        refine (odd_any sb _ hS3).mono ?_
        rintro e v4 ⟨n4, -, rfl, hS4, hG4⟩
        go_wp2_with fail
        refine (odd_any sb _ hS4).mono ?_
        rintro e X8 ⟨n5, -, rfl, hS8, hG5⟩
        have hGG := grownBy_trans (grownBy_trans (grownBy_trans (grownBy_trans hG1 hG2) hG3) hG4) hG5
        clear hs1 hS1 hS2 hS3 hS4 hG1 hG2 hG3 hG4 hG5

        have HY8 := Lib.hid (heap_gr hGG (show B ≠ sb by omega) HY1.out)
        have HR8 := Lib.hid ((HR1.out.grown hGG (fun b h => h.1)).mono (Q := fun b => b < B) (fun b h _ => h.2))
        have HG8 := Lib.hid (grownBy_trans HG1.out hGG)
        have HS8 := Lib.hid hS8
        have z8 := hGG.size
        have zB8 : B < X8.heap.size := by omega
        clear hGG hS8 HG1 HY1 HR1 HS1
        go_wp2_with fail
        go_loopw [212] (fun kv wr => ∃ l : Nat, l ≤ 3 ∧ kv = .int .i64 l ∧ Below X8.heap.size X8 wr) (fun kv _ => 3 - (intOf kv).toNat)
        case atStart => exact ⟨0, by omega, rfl, brefl⟩
        case round =>
          obtain ⟨l, hl, rfl, hbr⟩ := hrel
          by_cases hl4 : l < 3
          · have hk : ∃ (ka kb kc : Int), ∀ W : World, (Instr.index 87 (.agg #[.int .i64 first, .int .i64 years, .int .i64 day, .int .i64 n1, .int .i64 n2, .int .i64 n3, .int .i64 n4, .int .i64 60, .int .i64 n5]) (.int .i64 (l : Int))).run Try.prog W = .ok (.agg #[.int .i64 ka, .int .i64 kb, .int .i64 kc]) W := by
              rcases (show l = 0 ∨ l = 1 ∨ l = 2 by omega) with rfl | rfl | rfl
              · exact ⟨first, years, day, fun W => by kernel_rfl⟩
              · exact ⟨n1, n2, n3, fun W => by kernel_rfl⟩
              · exact ⟨n4, 60, n5, fun W => by kernel_rfl⟩
            obtain ⟨ka, kb, kc, hixk⟩ := hk
            have HBR := Lib.hid hbr
            have zr2 := hbr.size
            have hl4' : ((l : Int) < 3) = True := eq_true (by omega)
            clear hbr
            go_upto_region 33 with fail
            obtain ⟨W0', hW0'⟩ : ∃ X, wr.alloc (.cells #[.int .i64 ka, .int .i64 kb, .int .i64 kc] 86 (0, 0)) = X := ⟨_, rfl⟩
            have hb0 : Below wr.heap.size wr W0' := by rw [← hW0']; exact bal brefl _
            have hk0 : W0'.heap[wr.heap.size]? = some (.cells #[.int .i64 ka, .int .i64 kb, .int .i64 kc] 86 (0, 0)) := by rw [← hW0']; exact heap_alloc_new wr _
            rw [hW0']
            clear hW0'
            have HK := Lib.hid (show RkK B wr.heap.size X8 W0' (.cells #[.slice y0 p0 t0, .slice y1 p1 t1, .slice y2 p2 t2] 27 (0, 0)) (.cells #[.int .i64 ka, .int .i64 kb, .int .i64 kc] 86 (0, 0)) from ⟨bup HBR.out hb0, heap_bl (bup HBR.out hb0) HY8.out, hk0⟩)
            clear hb0 hk0

            obtain ⟨FE, hFE⟩ : ∃ b, fsE Y ka kb = b := ⟨_, rfl⟩
            obtain ⟨GY, hGY⟩ : ∃ b, gtY Y ka kb = b := ⟨_, rfl⟩
            obtain ⟨GP, hGP⟩ : ∃ b, gtP Y ka kb = b := ⟨_, rfl⟩
            obtain ⟨TN, hTN⟩ : ∃ b, tmNum Y kc = b := ⟨_, rfl⟩
            obtain ⟨TD, hTD⟩ : ∃ b, tmDen Y kc = b := ⟨_, rfl⟩
            obtain ⟨TE, hTE⟩ : ∃ b, tmE Y kc = b := ⟨_, rfl⟩
            have q0 : (FE != FE) = false := by simp
            have q1 : (GY != GY) = false := by simp
            have q2 : (GP != GP) = false := by simp
            have q3 : (TN != TN) = false := by simp
            have q4 : (TD != TD) = false := by simp
            have q5 : (TE != TE) = false := by simp
            have KP := fun W (hW : Below X8.heap.size X8 W) => falls_any _ _ _ _ Y ka kb W (HR8.out.any.below hW) hl1 hl2 hl3
            have KQ := fun W (hW : Below X8.heap.size X8 W) => fFalls_any _ _ _ _ Y ka kb W (HR8.out.any.below hW) hl1 hl2 hl3
            have KC := fun W (hW : Below X8.heap.size X8 W) => greatest_any _ _ _ _ Y ka kb W (HR8.out.any.below hW) hl1 hl2 hl3
            have KD := fun W (hW : Below X8.heap.size X8 W) => fgreatest_any _ _ _ _ Y ka kb W (HR8.out.any.below hW) hl1 hl2 hl3
            have KS := fun W (hW : Below X8.heap.size X8 W) => term_any _ _ _ _ Y kc W (HR8.out.any.below hW) hl1 hl2 hl3
            have KU := fun W (hW : Below X8.heap.size X8 W) => fterm_any _ _ _ _ Y kc W (HR8.out.any.below hW) hl1 hl2 hl3
            unfold TmW at KS KU
            simp only [hFE] at KP KQ KC KD
            simp only [hGY, hGP] at KC KD
            simp only [hTN, hTD, hTE] at KS KU
            have KP := Lib.hid KP
            have KQ := Lib.hid KQ
            have KC := Lib.hid KC
            have KD := Lib.hid KD
            have KS := Lib.hid KS
            have KU := Lib.hid KU
            clear hFE hGY hGP hTN hTD hTE

            have s0 := cell_heap (i := 0) (HK.out.y) rfl; have s1 := cell_heap (i := 1) (HK.out.y) rfl; have s2 := cell_heap (i := 2) (HK.out.y) rfl
            have t0 := cell_heap (i := 0) (HK.out.k) rfl; have t1 := cell_heap (i := 1) (HK.out.k) rfl; have t2 := cell_heap (i := 2) (HK.out.k) rfl
            go_wp2_with fail
            refine (KP.out _ HK.out.bl).mono ?_
            rintro e g1 ⟨pv, rfl, hown, hbs⟩
            have HK := Lib.hid (HK.out.up hbs)
            have HSP := Lib.hid (sl_ints hown rfl)
            clear hown
            clear hbs s0 s1 s2 t0 t1 t2

            have s0 := cell_heap (i := 0) (HK.out.y) rfl; have s1 := cell_heap (i := 1) (HK.out.y) rfl; have s2 := cell_heap (i := 2) (HK.out.y) rfl
            have t0 := cell_heap (i := 0) (HK.out.k) rfl; have t1 := cell_heap (i := 1) (HK.out.k) rfl; have t2 := cell_heap (i := 2) (HK.out.k) rfl
            go_wp2_with fail
            refine (KQ.out _ HK.out.bl).mono ?_
            rintro e g2 ⟨qv, rfl, hown, hbs⟩
            have HK := Lib.hid (HK.out.up hbs)
            have HSP := Lib.hid (HSP.out.below hbs)
            have HSQ := Lib.hid (sl_ints hown rfl)
            clear hown
            clear hbs s0 s1 s2 t0 t1 t2

            go_wp2_with fail
            refine (fints_eq _ _ _ _ _ g2 HSP.out HSQ.out (fsL_lb _ _ _)).mono ?_
            rintro e g3 ⟨rfl, hbs⟩
            have HK := Lib.hid (HK.out.up hbs)
            clear hbs HSP HSQ

            have s0 := cell_heap (i := 0) (HK.out.y) rfl; have s1 := cell_heap (i := 1) (HK.out.y) rfl; have s2 := cell_heap (i := 2) (HK.out.y) rfl
            have t0 := cell_heap (i := 0) (HK.out.k) rfl; have t1 := cell_heap (i := 1) (HK.out.k) rfl; have t2 := cell_heap (i := 2) (HK.out.k) rfl
            go_wp2_with fail
            refine (KC.out _ HK.out.bl).mono ?_
            rintro e g4 ⟨rfl, hbs⟩
            have HK := Lib.hid (HK.out.up hbs)

            clear hbs s0 s1 s2 t0 t1 t2

            have s0 := cell_heap (i := 0) (HK.out.y) rfl; have s1 := cell_heap (i := 1) (HK.out.y) rfl; have s2 := cell_heap (i := 2) (HK.out.y) rfl
            have t0 := cell_heap (i := 0) (HK.out.k) rfl; have t1 := cell_heap (i := 1) (HK.out.k) rfl; have t2 := cell_heap (i := 2) (HK.out.k) rfl
            go_wp2_with fail
            refine (KD.out _ HK.out.bl).mono ?_
            rintro e g5 ⟨rfl, hbs⟩
            have HK := Lib.hid (HK.out.up hbs)

            clear hbs s0 s1 s2 t0 t1 t2

            have s0 := cell_heap (i := 0) (HK.out.y) rfl; have s1 := cell_heap (i := 1) (HK.out.y) rfl; have s2 := cell_heap (i := 2) (HK.out.y) rfl
            have t0 := cell_heap (i := 0) (HK.out.k) rfl; have t1 := cell_heap (i := 1) (HK.out.k) rfl; have t2 := cell_heap (i := 2) (HK.out.k) rfl
            go_wp2_with fail
            refine (KS.out _ HK.out.bl).mono ?_
            rintro e g6 ⟨rfl, hbs⟩
            have HK := Lib.hid (HK.out.up hbs)

            clear hbs s0 s1 s2 t0 t1 t2

            have s0 := cell_heap (i := 0) (HK.out.y) rfl; have s1 := cell_heap (i := 1) (HK.out.y) rfl; have s2 := cell_heap (i := 2) (HK.out.y) rfl
            have t0 := cell_heap (i := 0) (HK.out.k) rfl; have t1 := cell_heap (i := 1) (HK.out.k) rfl; have t2 := cell_heap (i := 2) (HK.out.k) rfl
            go_wp2_with fail
            refine (KU.out _ HK.out.bl).mono ?_
            rintro e g7 ⟨rfl, hbs⟩
            have HK := Lib.hid (HK.out.up hbs)

            clear hbs s0 s1 s2 t0 t1 t2

            clear KP KQ KC KD KS KU
            go_wp2
            go_roundw
            case rel => exact ⟨l + 1, by omega, by go_num, HK.out.bl⟩
            case measure => simp [intOf]; omega
          · have hl4' : ((l : Int) < 3) = False := eq_false (by omega)
            have HFIN := Lib.hid (show Vc.grownBy wr (some sb) ∧ SrcOk wr sb from ⟨grownBy_trans HG8.out (gr_of_below hbr sb), srcOk_below HS8.out hbr (by omega)⟩)
            clear hbr
            go_wp2
            go_roundw
            case rel => exact ⟨i + 1, by omega, by go_num, HFIN.out.1, HFIN.out.2⟩
            case measure => simp [intOf]; omega
      · have hlt4' : ((i : Int) < 3) = False := eq_false (by omega)
        have HFIN := Lib.hid hst2.bl
        clear hst2 hGr2 hSr2
        go_wp2
        first | exact HFIN.out | exact hQ _ _ _ _ _ _ _ _ _ _ _ _ _ _ _ _ _ _ _ _ _ _ _ _ _ _ _ _ _ _ _ _ _ _ _ _ _ _ _ _ _ _ _ _ _ _ _ _ _ _ _ _ _ _ _ _ _ _ _ _ _ _ _ _ _ _ _ _ _ _ _ _ _ _ _ _ _ _ _ _ _ _ _ _ _ _ _ _ _ _ _ _ _ _ _ _ _ _ _ _ _ _ _ _ _ _ _ _ _ _ _ _ _ _ _ _ _ _ _ _ _ _ _ _ _ _ _ _ _ _ _ _ HFIN.out
end Go.Proofs.Ytpoidaenkjjdfaa
namespace Go.Proofs.Ytpoidaenkjjdfaa
open Go.RowKit
set_option linter.unusedVariables false
set_option linter.unusedSimpArgs false
noncomputable def ca_kC : Code := ((Try.f5.body.bind (seqAt 12)).getD (.skip, .skip)).1
noncomputable def cb_kC : Code := ((Try.f5.body.bind (seqAt 12)).getD (.skip, .skip)).2
set_option maxHeartbeats 64000000 in
set_option maxRecDepth 1000000 in
theorem kC {K : Act → World → Prop} {Q : Exit → Act → World → Prop} {sb : Nat} {w w3 w10 : World} {r0 r1 r2 a0 a1 a2 : Option Addr} {rn0 rc0 rn1 rc1 rn2 rc2 n0 c0 n1 c1 n2 c2 : Nat} {R RR : Reg} {o4 o7 l0 : Option Addr} {c4 c7 ln lc : Nat} {L4 L5 RL : List Int} {u : Int} {first years bby day : Int} {lo : Option Addr} {lm lk : Nat} {L : List Int} {z0 z1 z2 z7 z9 z10 z11 z12 z13 z14 z17 z18 z19 z20 z22 z23 z24 z25 z26 z27 z28 z29 z30 z31 z32 z33 z34 z35 z36 z37 z38 z39 z40 z41 z42 z43 z44 z45 z46 z47 z48 z49 z50 z51 z52 z53 z54 z55 z56 z57 z58 z59 z60 z61 z62 z63 z64 z65 z66 z67 z68 z69 z70 z71 z72 z73 z74 z75 z76 z77 z78 z79 z80 z81 z82 z83 z84 z85 z86 z87 z88 z89 z90 z91 z92 z93 z94 z95 z96 z97 z98 z99 z100 z101 z102 z103 z104 z105 z106 z107 z108 z109 z110 z111 z112 z113 z114 z115 z116 z117 z118 z119 z120 z121 z122 z123 z124 z125 z126 z127 z128 z129 z130 z131 z132 z133 z134 z135 z136 z137 z138 z139 z140 z141 z142 z143 z144 z145 z146 z147 z148 z149 z150 z151 z152 z153 z154 z155 z156 z157 z158 z159 z160 z161 z162 z163 z164 z165 z166 z167 z168 z169 z170 z171 z172 z173 z174 z175 z176 z177 z178 z179 z180 z181 z182 z183 z184 z185 z186 z187 z188 z189 z190 z191 z192 z193 z194 z195 z196 z197 z198 z199 z200 z201 z202 z203 z204 z205 z206 z207 z208 z209 z210 z211 z212 z213 z214 z215 z216 z217 z218 z219 z220 z221 z222 z223 z224 z225 z226 z227 z228 z229 z230 z231 z232 z233 z234 z235 z236 z237 z238 z239 z240 z241 z242 z243 z244 z245 z246 z247 z248 z249 z250 z251 z252 z253 z254 z255 z256 z257 z258 z259 z260 z261 z262 z263 z264 z265 z266 z267 z268 z269 z270 z271 z272 z273 z274 z275 z276 z277 z278 z279 z280 z281 z282 z283 z284 z285 z286 z287 z288 z289 z290 z291 z292 z293 z294 z295 z296 z297 z298 z299 z300 z301 z302 z303 z304 z305 z306 : Value} (HST10 : Hid (RkS sb w.heap.size w3.heap.size w w10 (.slice r0 rn0 rc0) (.slice r1 rn1 rc1) (.slice r2 rn2 rc2) (.slice a0 n0 c0) (.slice a1 n1 c1) (.slice a2 n2 c2) R RR (.slice o4 L4.length c4) (.slice o7 (L5.length + 1) c7) (.slice l0 ln lc) L4 (L5 ++ [u]) RL)) (HSL : Hid (Sl 1 encI (fun b => b ≠ sb) w10 (.slice lo lm lk) L)) (HLn : Hid (L.length ≤ 1000000)) (HBS : Hid ((1 ≤ R.secs.length ∧ R.secs.length ≤ 1000) ∧ R.hs.length ≤ 1000 ∧ R.ms.length ≤ 1000)) (HLB : Hid (LB RR)) (HLR : Hid (LB R))
    (hK : ∀ a w, Code.wp Try.prog cb_kC Q a w → K a w)
    (hQ : ∀ (v14 v23 v25 v26 v27 v28 v29 v30 v31 v32 v33 v106 v107 v108 v109 v110 v111 v112 v113 v114 v115 v116 v117 v118 v119 v120 v121 v122 v123 v124 v125 v126 v127 v128 v129 v130 v131 v132 v133 v134 v135 v136 v137 v138 v139 v140 v141 v142 v143 v144 v145 v146 v147 v148 v149 v150 v151 v152 v153 v154 v155 v156 v157 v158 v159 v160 v161 v162 v163 v164 v165 v166 v167 v168 v169 v170 v171 v172 v173 v174 v175 v176 v177 v178 v179 v180 v181 v182 v183 v184 : Value) (w' : World), (w10.grownBy w' (some sb) ∧ SrcOk w' sb) → Q .normal ⟨#[z0, z1, z2, .int .i64 first, .int .i64 years, .int .i64 bby, .int .i64 day, z7, .pointer (some ⟨w.heap.size, 0, none⟩), z9, z10, z11, z12, z13, v14, .pointer (some ⟨sb, 0, none⟩), .pointer (some ⟨w3.heap.size, 0, none⟩), z17, z18, z19, z20, .slice lo lm lk, z22, v23, z24, v25, v26, v27, v28, v29, v30, v31, v32, v33, z34, z35, z36, z37, z38, z39, z40, z41, z42, z43, z44, z45, z46, z47, z48, z49, z50, z51, z52, z53, z54, z55, z56, z57, z58, z59, z60, z61, z62, z63, z64, z65, z66, z67, z68, z69, z70, z71, z72, z73, z74, z75, z76, z77, z78, z79, z80, z81, z82, z83, z84, z85, z86, z87, z88, z89, z90, z91, z92, z93, z94, z95, z96, z97, z98, z99, z100, z101, z102, z103, z104, z105, v106, v107, v108, v109, v110, v111, v112, v113, v114, v115, v116, v117, v118, v119, v120, v121, v122, v123, v124, v125, v126, v127, v128, v129, v130, v131, v132, v133, v134, v135, v136, v137, v138, v139, v140, v141, v142, v143, v144, v145, v146, v147, v148, v149, v150, v151, v152, v153, v154, v155, v156, v157, v158, v159, v160, v161, v162, v163, v164, v165, v166, v167, v168, v169, v170, v171, v172, v173, v174, v175, v176, v177, v178, v179, v180, v181, v182, v183, v184, z185, z186, z187, z188, z189, z190, z191, z192, z193, z194, z195, z196, z197, z198, z199, z200, z201, z202, z203, z204, z205, z206, z207, z208, z209, z210, z211, z212, z213, z214, z215, z216, z217, z218, z219, z220, z221, z222, z223, z224, z225, z226, z227, z228, z229, z230, z231, z232, z233, z234, z235, z236, z237, z238, z239, z240, z241, z242, z243, z244, z245, z246, z247, z248, z249, z250, z251, z252, z253, z254, z255, z256, z257, z258, z259, z260, z261, z262, z263, z264, z265, z266, z267, z268, z269, z270, z271, z272, z273, z274, z275, z276, z277, z278, z279, z280, z281, z282, z283, z284, z285, z286, z287, z288, z289, z290, z291, z292, z293, z294, z295, z296, z297, z298, z299, z300, z301, z302, z303, z304, z305, z306], []⟩ w') :
    Code.wp Try.prog ca_kC (Exit.then K Q) ⟨#[z0, z1, z2, .int .i64 first, .int .i64 years, .int .i64 bby, .int .i64 day, z7, .pointer (some ⟨w.heap.size, 0, none⟩), z9, z10, z11, z12, z13, z14, .pointer (some ⟨sb, 0, none⟩), .pointer (some ⟨w3.heap.size, 0, none⟩), z17, z18, z19, z20, .slice lo lm lk, z22, z23, z24, z25, z26, z27, z28, z29, z30, z31, z32, z33, z34, z35, z36, z37, z38, z39, z40, z41, z42, z43, z44, z45, z46, z47, z48, z49, z50, z51, z52, z53, z54, z55, z56, z57, z58, z59, z60, z61, z62, z63, z64, z65, z66, z67, z68, z69, z70, z71, z72, z73, z74, z75, z76, z77, z78, z79, z80, z81, z82, z83, z84, z85, z86, z87, z88, z89, z90, z91, z92, z93, z94, z95, z96, z97, z98, z99, z100, z101, z102, z103, z104, z105, z106, z107, z108, z109, z110, z111, z112, z113, z114, z115, z116, z117, z118, z119, z120, z121, z122, z123, z124, z125, z126, z127, z128, z129, z130, z131, z132, z133, z134, z135, z136, z137, z138, z139, z140, z141, z142, z143, z144, z145, z146, z147, z148, z149, z150, z151, z152, z153, z154, z155, z156, z157, z158, z159, z160, z161, z162, z163, z164, z165, z166, z167, z168, z169, z170, z171, z172, z173, z174, z175, z176, z177, z178, z179, z180, z181, z182, z183, z184, z185, z186, z187, z188, z189, z190, z191, z192, z193, z194, z195, z196, z197, z198, z199, z200, z201, z202, z203, z204, z205, z206, z207, z208, z209, z210, z211, z212, z213, z214, z215, z216, z217, z218, z219, z220, z221, z222, z223, z224, z225, z226, z227, z228, z229, z230, z231, z232, z233, z234, z235, z236, z237, z238, z239, z240, z241, z242, z243, z244, z245, z246, z247, z248, z249, z250, z251, z252, z253, z254, z255, z256, z257, z258, z259, z260, z261, z262, z263, z264, z265, z266, z267, z268, z269, z270, z271, z272, z273, z274, z275, z276, z277, z278, z279, z280, z281, z282, z283, z284, z285, z286, z287, z288, z289, z290, z291, z292, z293, z294, z295, z296, z297, z298, z299, z300, z301, z302, z303, z304, z305, z306], []⟩ w10 := by
  obtain ⟨ca, hca⟩ : ∃ c, c = ca_kC := ⟨_, rfl⟩
  obtain ⟨cb, hcb⟩ : ∃ c, c = cb_kC := ⟨_, rfl⟩
  rw [← hca]
  rw [← hcb] at hK
  conv at hca => rhs; whnf
  conv at hcb => rhs; whnf
  subst hca
  subst hcb
  dsimp only
  have b0 := cell_heap (i := 0) (HST10.out.b2) rfl; have b1 := cell_heap (i := 1) (HST10.out.b2) rfl; have b2 := cell_heap (i := 2) (HST10.out.b2) rfl
  have q0 := cell_heap (i := 0) (HST10.out.b0) rfl; have q1 := cell_heap (i := 1) (HST10.out.b0) rfl; have q2 := cell_heap (i := 2) (HST10.out.b0) rfl
  have HBN := Lib.hid (bent_any (fun b => b ≠ sb) sb _ _ _ R w10.drew (srcOk_drewN HST10.out.so 1) (HST10.out.rg.below (bdr brefl)) (fun b h => h) HBS.out.1 HBS.out.2.1 HBS.out.2.2)
  go_upto_region 12 with fail
  go_cut [111, 112] from 106 to 184 (fun sA sI wx => ∃ (u0 u1 u2 : Option Addr) (m0 d0 m1 d1 m2 d2 : Nat) (R' : Reg), sA = .agg #[.slice a0 n0 c0, .slice a1 n1 c1, .slice a2 n2 c2, .slice u0 m0 d0, .slice u1 m1 d1, .slice u2 m2 d2, .slice r0 rn0 rc0, .slice r1 rn1 rc1, .slice r2 rn2 rc2] ∧ sI = .int .i64 0 ∧ LB R' ∧ RgIn (fun b => b ≠ sb) wx (.slice u0 m0 d0) (.slice u1 m1 d1) (.slice u2 m2 d2) R' ∧ SrcOk wx sb ∧ w10.grownBy wx (some sb))
  case first =>
    go_region_held3 (fun w' => w'.cell? ⟨w3.heap.size, 0, none⟩ = some (.slice a0 n0 c0) ∧ w'.cell? ⟨w3.heap.size, 1, none⟩ = some (.slice a1 n1 c1) ∧ w'.cell? ⟨w3.heap.size, 2, none⟩ = some (.slice a2 n2 c2) ∧ w'.cell? ⟨w.heap.size, 0, none⟩ = some (.slice r0 rn0 rc0) ∧ w'.cell? ⟨w.heap.size, 1, none⟩ = some (.slice r1 rn1 rc1) ∧ w'.cell? ⟨w.heap.size, 2, none⟩ = some (.slice r2 rn2 rc2)) (first | exact ⟨g0, g1, g2, kq0, kq1, kq2⟩ | exact ⟨b0, b1, b2, q0, q1, q2⟩ | go_keep) ((go_at_call 16; refine HBN.out.mono ?_; rintro e w9 ⟨v0, v1, v2, R', rfl, hl', hR9, hS9, hG9⟩; obtain ⟨u0, m0, d0, rfl, -, -, -⟩ := hR9.S.shape; obtain ⟨u1, m1, d1, rfl, -, -, -⟩ := hR9.H.shape; obtain ⟨u2, m2, d2, rfl, -, -, -⟩ := hR9.M.shape; have hG9' := grownBy_undrew hG9; have hst9 := HST10.out.grown hG9' hS9; have HS9 := Lib.hid hS9; have HG9 := Lib.hid hG9'; have zlt := srcOk_lt HST10.out.so; have HR9 := Lib.hid (hR9.mono (Q := fun b => b ≠ sb) (fun b h _ => by have : w10.drew.heap.size = w10.heap.size := rfl; omega)); have HL9 := Lib.hid hl'; have g0 := cell_heap (i := 0) (hst9.b2) rfl; have g1 := cell_heap (i := 1) (hst9.b2) rfl; have g2 := cell_heap (i := 2) (hst9.b2) rfl; have kq0 := cell_heap (i := 0) (hst9.b0) rfl; have kq1 := cell_heap (i := 1) (hst9.b0) rfl; have kq2 := cell_heap (i := 2) (hst9.b0) rfl; clear hR9 hS9 hG9 hG9' hst9 hl'))
    all_goals (go_wp2_with fail; go_meet)
    all_goals exact ⟨u0, u1, u2, m0, d0, m1, d1, m2, d2, R', rfl, rfl, (by have h := HL9.out; have h1 := HBS.out; exact ⟨by omega, by omega, by omega⟩), HR9.out, HS9.out, HG9.out⟩
  case rest =>
    obtain ⟨u0, u1, u2, m0, d0, m1, d1, m2, d2, R', rfl, rfl, hlb', hR', hso', hG'⟩ := hcut
    clear b0 b1 b2 q0 q1 q2 HBN
    obtain ⟨w10c, hWc⟩ : ∃ X, X = wc := ⟨_, rfl⟩
    subst hWc
    have HST10c := Lib.hid (HST10.out.grown hG' hso')
    have HRB := Lib.hid hR'
    have HLB' := Lib.hid hlb'
    have HGc := Lib.hid hG'
    clear hlb' hR' hso' hG'
    go_wp2_with fail
    go_loopw [112] (fun kv wr => ∃ i : Nat, i ≤ 3 ∧ kv = .int .i64 i ∧ w10c.grownBy wr (some sb) ∧ SrcOk wr sb) (fun kv _ => 3 - (intOf kv).toNat)
    case atStart => exact ⟨0, by omega, rfl, gr_of_below brefl sb, HST10c.out.so⟩
    case round =>
      obtain ⟨i, hi, rfl, hGr2, hSr2⟩ := hrel
      obtain ⟨V2, hV2⟩ : ∃ X, X = wr := ⟨_, rfl⟩
      subst hV2
      have hst2 := HST10c.out.grown hGr2 hSr2
      by_cases hlt4 : i < 3
      · have hy : ∃ (y0 y1 y2 : Option Addr) (p0 t0 p1 t1 p2 t2 : Nat) (Y : Reg), LB Y ∧ RgIn (fun b => b ≠ sb) V2 (.slice y0 p0 t0) (.slice y1 p1 t1) (.slice y2 p2 t2) Y ∧ ∀ W : World, (Instr.index 42 (.agg #[.slice a0 n0 c0, .slice a1 n1 c1, .slice a2 n2 c2, .slice u0 m0 d0, .slice u1 m1 d1, .slice u2 m2 d2, .slice r0 rn0 rc0, .slice r1 rn1 rc1, .slice r2 rn2 rc2]) (.int .i64 (i : Int))).run Try.prog W = .ok (.agg #[.slice y0 p0 t0, .slice y1 p1 t1, .slice y2 p2 t2]) W := by
          rcases (show i = 0 ∨ i = 1 ∨ i = 2 by omega) with rfl | rfl | rfl
          · exact ⟨a0, a1, a2, n0, c0, n1, c1, n2, c2, R, HLR.out, hst2.rg, fun W => by kernel_rfl⟩
          · exact ⟨u0, u1, u2, m0, d0, m1, d1, m2, d2, R', HLB'.out, HRB.out.grown hGr2 (fun b h => h), fun W => by kernel_rfl⟩
          · exact ⟨r0, r1, r2, rn0, rc0, rn1, rc1, rn2, rc2, RR, HLB.out, hst2.rr, fun W => by kernel_rfl⟩
        obtain ⟨y0, y1, y2, p0, t0, p1, t1, p2, t2, Y, hlbY, hrY, hix⟩ := hy
        have HSTi := Lib.hid hst2
        have HGi := Lib.hid hGr2
        have HRY := Lib.hid hrY
        have HLY := Lib.hid hlbY
        have hsV := srcOk_lt hSr2
        have hlt4' : ((i : Int) < 3) = True := eq_true (by omega)
        have hl1 := hlbY.1
        have hl2 := hlbY.2.1
        have hl3 := hlbY.2.2
        clear hst2 hGr2 hSr2 hlbY hrY
        go_upto_region 15 with fail
        obtain ⟨W1, hW1⟩ : ∃ X, V2.alloc (.cells #[.slice y0 p0 t0, .slice y1 p1 t1, .slice y2 p2 t2] 27 (0, 0)) = X := ⟨_, rfl⟩
        have hy1 : W1.heap[V2.heap.size]? = some (.cells #[.slice y0 p0 t0, .slice y1 p1 t1, .slice y2 p2 t2] 27 (0, 0)) := by rw [← hW1]; exact heap_alloc_new V2 _
        have hb1 : Below V2.heap.size V2 W1 := by rw [← hW1]; exact bal brefl _
        have zW1 : W1.heap.size = V2.heap.size + 1 := by rw [← hW1]; simp
        rw [hW1]
        obtain ⟨B, hB⟩ : ∃ B, V2.heap.size = B := ⟨_, rfl⟩
        rw [hB] at hy1 zW1 ⊢
        have HY1 := Lib.hid hy1
        have HS1 := Lib.hid (srcOk_below HSTi.out.so hb1 hsV)
        have HG1 := Lib.hid (grownBy_trans HGi.out (gr_of_below hb1 sb))
        have HR1 := Lib.hid ((HRY.out.mono (Q := fun b => b ≠ sb ∧ b < B) (fun b h hl => ⟨h, by omega⟩)).below hb1)
        have zsb : sb < B := by omega
        clear hy1 hW1 hb1 hB HRY hix
        have HSL1 := Lib.hid ((HSL.out.mono (Q := fun b => b ≠ sb) (fun b h _ => h)))
        have hs1 := HS1.out
        go_wp2_with fail
        refine (n_any sb 3 _ hs1 (by omega)).mono ?_
        rintro e v1 ⟨n1, -, rfl, hS1, hG1⟩
        go_wp2_with fail
        refine (pick_lit sb [-20000, -500, 0, 1000, 20000] _ _ _ v1 hS1 (by decide) (by decide) rfl rfl rfl).mono ?_
        rintro e X8 ⟨n2, -, rfl, hS8, hG2⟩
        have hGG := grownBy_trans hG1 hG2
        have HSL8 := Lib.hid ((HSL.out.grown (grownBy_trans HGc.out (grownBy_trans HG1.out hGG)) (fun b h => h)))
        clear hs1 hS1 hG1 hG2 HSL1

        have HY8 := Lib.hid (heap_gr hGG (show B ≠ sb by omega) HY1.out)
        have HR8 := Lib.hid ((HR1.out.grown hGG (fun b h => h.1)).mono (Q := fun b => b < B) (fun b h _ => h.2))
        have HG8 := Lib.hid (grownBy_trans HG1.out hGG)
        have HS8 := Lib.hid hS8
        have z8 := hGG.size
        have zB8 : B < X8.heap.size := by omega
        clear hGG hS8 HG1 HY1 HR1 HS1
        go_wp2_with fail
        go_loopw [125] (fun kv wr => ∃ l : Nat, l ≤ 2 ∧ kv = .int .i64 l ∧ Below X8.heap.size X8 wr) (fun kv _ => 2 - (intOf kv).toNat)
        case atStart => exact ⟨0, by omega, rfl, brefl⟩
        case round =>
          obtain ⟨l, hl, rfl, hbr⟩ := hrel
          by_cases hl4 : l < 2
          · have hk : ∃ (ka kb : Int), ∀ W : World, (Instr.index 80 (.agg #[.int .i64 first, .int .i64 bby, .int .i64 n1, .int .i64 n2]) (.int .i64 (l : Int))).run Try.prog W = .ok (.agg #[.int .i64 ka, .int .i64 kb]) W := by
              rcases (show l = 0 ∨ l = 1 by omega) with rfl | rfl
              · exact ⟨first, bby, fun W => by kernel_rfl⟩
              · exact ⟨n1, n2, fun W => by kernel_rfl⟩
            obtain ⟨ka, kb, hixk⟩ := hk
            have HBR := Lib.hid hbr
            have zr2 := hbr.size
            have hl4' : ((l : Int) < 2) = True := eq_true (by omega)
            clear hbr
            go_upto_region 18 with fail
            obtain ⟨W0', hW0'⟩ : ∃ X, wr.alloc (.cells #[.int .i64 ka, .int .i64 kb] 79 (0, 0)) = X := ⟨_, rfl⟩
            have hb0 : Below wr.heap.size wr W0' := by rw [← hW0']; exact bal brefl _
            have hk0 : W0'.heap[wr.heap.size]? = some (.cells #[.int .i64 ka, .int .i64 kb] 79 (0, 0)) := by rw [← hW0']; exact heap_alloc_new wr _
            rw [hW0']
            clear hW0'
            have HK := Lib.hid (show RkK B wr.heap.size X8 W0' (.cells #[.slice y0 p0 t0, .slice y1 p1 t1, .slice y2 p2 t2] 27 (0, 0)) (.cells #[.int .i64 ka, .int .i64 kb] 79 (0, 0)) from ⟨bup HBR.out hb0, heap_bl (bup HBR.out hb0) HY8.out, hk0⟩)
            clear hb0 hk0

            obtain ⟨PE, hPE⟩ : ∃ b, prE Y ka L = b := ⟨_, rfl⟩
            obtain ⟨CE, hCE⟩ : ∃ b, csE Y ka L kb = b := ⟨_, rfl⟩
            obtain ⟨CV, hCV⟩ : ∃ b, csV Y ka L kb = b := ⟨_, rfl⟩
            have q1 : (PE != PE) = false := by simp
            have q2 : (CE != CE) = false := by simp
            have q3 : (CV != CV) = false := by simp
            have HSLX := Lib.hid (fun W (hW : Below X8.heap.size X8 W) => HSL8.out.below hW)
            have KP := Lib.hid (fun W (hW : Below X8.heap.size X8 W) => (hPE ▸ project_any _ _ _ _ _ _ Y ka L W (HR8.out.any.below hW) hl1 hl2 hl3 (HSLX.out W hW) HLn.out))
            have KQ := Lib.hid (fun W (hW : Below X8.heap.size X8 W) => (hPE ▸ fproject_any _ _ _ _ _ _ Y ka L W (HR8.out.any.below hW) hl1 hl2 hl3 (HSLX.out W hW) HLn.out))
            have KC := Lib.hid (fun W (hW : Below X8.heap.size X8 W) => (hCE ▸ hCV ▸ cost_any _ _ _ _ _ _ Y ka kb L W (HR8.out.any.below hW) hl1 hl2 hl3 (HSLX.out W hW) HLn.out))
            have KD := Lib.hid (fun W (hW : Below X8.heap.size X8 W) => (hCE ▸ hCV ▸ fcost_any _ _ _ _ _ _ Y ka kb L W (HR8.out.any.below hW) hl1 hl2 hl3 (HSLX.out W hW) HLn.out))
            clear hPE hCE hCV

            have s0 := cell_heap (i := 0) (HK.out.y) rfl; have s1 := cell_heap (i := 1) (HK.out.y) rfl; have s2 := cell_heap (i := 2) (HK.out.y) rfl
            have t0 := cell_heap (i := 0) (HK.out.k) rfl; have t1 := cell_heap (i := 1) (HK.out.k) rfl
            go_wp2_with fail
            refine (KP.out _ HK.out.bl).mono ?_
            rintro e g1 ⟨pv, rfl, hown, hbs⟩
            have HK := Lib.hid (HK.out.up hbs)
            have HSP := Lib.hid ((Sl.own (P := fun _ => True) encSvc_len hown rfl (fun _ _ => trivial)))
            clear hown
            clear hbs s0 s1 s2 t0 t1

            have s0 := cell_heap (i := 0) (HK.out.y) rfl; have s1 := cell_heap (i := 1) (HK.out.y) rfl; have s2 := cell_heap (i := 2) (HK.out.y) rfl
            have t0 := cell_heap (i := 0) (HK.out.k) rfl; have t1 := cell_heap (i := 1) (HK.out.k) rfl
            go_wp2_with fail
            refine (KQ.out _ HK.out.bl).mono ?_
            rintro e g2 ⟨qv, rfl, hown, hbs⟩
            have HK := Lib.hid (HK.out.up hbs)
            have HSP := Lib.hid (HSP.out.below hbs)
            have HSQ := Lib.hid ((Sl.own (P := fun _ => True) encSvc_len hown rfl (fun _ _ => trivial)))
            clear hown
            clear hbs s0 s1 s2 t0 t1

            have s0 := cell_heap (i := 0) (HK.out.y) rfl; have s1 := cell_heap (i := 1) (HK.out.y) rfl; have s2 := cell_heap (i := 2) (HK.out.y) rfl
            have t0 := cell_heap (i := 0) (HK.out.k) rfl; have t1 := cell_heap (i := 1) (HK.out.k) rfl
            go_wp2_with fail
            refine (KC.out _ HK.out.bl).mono ?_
            rintro e g3 ⟨rfl, hbs⟩
            have HK := Lib.hid (HK.out.up hbs)
            have HSP := Lib.hid (HSP.out.below hbs)
            have HSQ := Lib.hid (HSQ.out.below hbs)
            clear hbs s0 s1 s2 t0 t1

            have s0 := cell_heap (i := 0) (HK.out.y) rfl; have s1 := cell_heap (i := 1) (HK.out.y) rfl; have s2 := cell_heap (i := 2) (HK.out.y) rfl
            have t0 := cell_heap (i := 0) (HK.out.k) rfl; have t1 := cell_heap (i := 1) (HK.out.k) rfl
            go_wp2_with fail
            refine (KD.out _ HK.out.bl).mono ?_
            rintro e g4 ⟨rfl, hbs⟩
            have HK := Lib.hid (HK.out.up hbs)
            have HSP := Lib.hid (HSP.out.below hbs)
            have HSQ := Lib.hid (HSQ.out.below hbs)
            clear hbs s0 s1 s2 t0 t1

            go_wp2_with fail
            refine (services_eq _ _ _ _ _ g4 HSP.out HSQ.out (prL_lb _ _ _ HLn.out)).mono ?_
            rintro e g5 ⟨rfl, hbs⟩
            have HK := Lib.hid (HK.out.up hbs)
            clear hbs KP KQ KC KD
            go_wp2
            go_roundw
            case rel => exact ⟨l + 1, by omega, by go_num, HK.out.bl⟩
            case measure => simp [intOf]; omega
          · have hl4' : ((l : Int) < 2) = False := eq_false (by omega)
            have HFIN := Lib.hid (show w10c.grownBy wr (some sb) ∧ SrcOk wr sb from ⟨grownBy_trans HG8.out (gr_of_below hbr sb), srcOk_below HS8.out hbr (by omega)⟩)
            clear hbr
            go_wp2
            go_roundw
            case rel => exact ⟨i + 1, by omega, by go_num, HFIN.out.1, HFIN.out.2⟩
            case measure => simp [intOf]; omega
      · have hlt4' : ((i : Int) < 3) = False := eq_false (by omega)
        have HFIN := Lib.hid (show w10.grownBy V2 (some sb) ∧ SrcOk V2 sb from ⟨grownBy_trans HGc.out hGr2, hSr2⟩)
        clear hst2 hGr2 hSr2
        go_wp2
        first | exact HFIN.out | exact hQ _ _ _ _ _ _ _ _ _ _ _ _ _ _ _ _ _ _ _ _ _ _ _ _ _ _ _ _ _ _ _ _ _ _ _ _ _ _ _ _ _ _ _ _ _ _ _ _ _ _ _ _ _ _ _ _ _ _ _ _ _ _ _ _ _ _ _ _ _ _ _ _ _ _ _ _ _ _ _ _ _ _ _ _ _ _ _ _ _ _ _ HFIN.out
end Go.Proofs.Ytpoidaenkjjdfaa
namespace Go.Proofs.Ytpoidaenkjjdfaa
open Go.RowKit
set_option linter.unusedVariables false
set_option linter.unusedSimpArgs false
set_option maxHeartbeats 64000000 in
set_option maxRecDepth 100000 in
theorem kexact_walk (k0 : Option Addr) (len0 cap0 : Nat) (vs vh vm rv : Value) (RR : Reg) (RL : List Int) (first years bby day : Int) (w : World) (h1 : len0 ≤ cap0) (h2 : cap0 ≤ maxLen) (hz : len0 = 0 ∨ ∃ b off, k0 = some ⟨b, off, none⟩ ∧ ∀ i, i < len0 → ∃ z : Int, w.cell? ⟨b, off + i, none⟩ = some (.int .i64 z)) (hr : RgIn (fun _ => True) w vs vh vm RR) (hrl : Sl 1 encI (fun _ => True) w rv RL) :
    Calls Try.prog 5 #[.slice k0 len0 cap0, .agg #[vs, vh, vm], rv, .int .i64 first, .int .i64 years, .int .i64 bby, .int .i64 day] w fun e w' => e = .returned (.bool true) ∧ Below w.heap.size w w' := by
  obtain ⟨r0, rn0, rc0, rfl, q0, -, -⟩ := hr.S.shape
  obtain ⟨r1, rn1, rc1, rfl, q1, -, -⟩ := hr.H.shape
  obtain ⟨r2, rn2, rc2, rfl, q2, -, -⟩ := hr.M.shape
  obtain ⟨l0, ln, lc, rfl, q3, -, -⟩ := hrl.shape
  have HNW := Lib.hid (fun W (hW : Below w.heap.size w W) => new_any k0 len0 cap0 W h1 h2 (hz.imp_right fun ⟨b, off, e, h⟩ => ⟨b, off, e, fun i hi => (h i hi).imp fun z hc => keepB hW hc⟩))
  have HRR := Lib.hid hr
  have HRL := Lib.hid hrl
  have HQ := Lib.hid (show RR.secs.length = rn0 ∧ RR.hs.length = rn1 ∧ RR.ms.length = rn2 ∧ RL.length = ln from ⟨q0, q1, q2, q3⟩)
  clear hz hr hrl q0 q1 q2 q3
  by_cases g0 : 5 < rn0
  · clear HNW HRR HRL HQ
    have d0 : decide ((5 : Int) < (rn0 : Int)) = true := by simp; omega
    go_enter Try.func5, Try.ntmps5
    go_wp2_with fail
    refine (sane39_any _).mono ?_
    rintro e w2 ⟨rfl, hb2⟩
    go_wp2
    go_ret
    exact ⟨rfl, bup (bal brefl _) hb2⟩
  by_cases g1 : 8 < rn1
  · clear HNW HRR HRL HQ
    have d0 : decide ((5 : Int) < (rn0 : Int)) = false := by simp; omega
    have d1 : decide ((8 : Int) < (rn1 : Int)) = true := by simp; omega
    go_enter Try.func5, Try.ntmps5
    go_wp2_with fail
    refine (sane39_any _).mono ?_
    rintro e w2 ⟨rfl, hb2⟩
    go_wp2
    go_ret
    exact ⟨rfl, bup (bal brefl _) hb2⟩
  by_cases g2 : 8 < rn2
  · clear HNW HRR HRL HQ
    have d0 : decide ((5 : Int) < (rn0 : Int)) = false := by simp; omega
    have d1 : decide ((8 : Int) < (rn1 : Int)) = false := by simp; omega
    have d2 : decide ((8 : Int) < (rn2 : Int)) = true := by simp; omega
    go_enter Try.func5, Try.ntmps5
    go_wp2_with fail
    refine (sane39_any _).mono ?_
    rintro e w2 ⟨rfl, hb2⟩
    go_wp2
    go_ret
    exact ⟨rfl, bup (bal brefl _) hb2⟩
  by_cases g3 : 70 < ln
  · clear HNW HRR HRL HQ
    have d0 : decide ((5 : Int) < (rn0 : Int)) = false := by simp; omega
    have d1 : decide ((8 : Int) < (rn1 : Int)) = false := by simp; omega
    have d2 : decide ((8 : Int) < (rn2 : Int)) = false := by simp; omega
    have d3 : decide ((70 : Int) < (ln : Int)) = true := by simp; omega
    go_enter Try.func5, Try.ntmps5
    go_wp2_with fail
    refine (sane39_any _).mono ?_
    rintro e w2 ⟨rfl, hb2⟩
    go_wp2
    go_ret
    exact ⟨rfl, bup (bal brefl _) hb2⟩
  have d0 : decide ((5 : Int) < (rn0 : Int)) = false := by simp; omega
  have d1 : decide ((8 : Int) < (rn1 : Int)) = false := by simp; omega
  have d2 : decide ((8 : Int) < (rn2 : Int)) = false := by simp; omega
  have d3 : decide ((70 : Int) < (ln : Int)) = false := by simp; omega
  have HLB := Lib.hid (show LB RR from by have h := HQ.out; exact ⟨by omega, by omega, by omega⟩)
  have HLL := Lib.hid (show RL.length ≤ 1000000 from by have h := HQ.out; omega)
  clear HQ
  go_enter Try.func5, Try.ntmps5
  go_wp2_with fail
  refine (HNW.out _ (bal brefl _)).mono ?_
  rintro e w2 ⟨sb, rfl, hsb, hS2, hB2⟩
  clear d0 d1 d2 d3 g0 g1 g2 g3
  have hlt := srcOk_lt hS2
  have z2 := hB2.size
  simp only [World.size_alloc] at hsb z2
  have HX0 := Lib.hid (heap_bl hB2 (heap_alloc_new w _))
  have HB2 := Lib.hid (bup (bal brefl _) hB2)
  clear hB2 HNW
  go_wp2_with fail
  refine (sreg_any sb 8 w2 hS2 (by omega)).mono ?_
  rintro e w3 ⟨us, uh, um, R, now, rfl, hlike, hml, hdl, hR, hS3, hG3⟩
  have z3 := hG3.size
  obtain ⟨a0, n0, c0, rfl, -, -, -⟩ := hR.S.shape
  obtain ⟨a1, n1, c1, rfl, -, -, -⟩ := hR.H.shape
  obtain ⟨a2, n2, c2, rfl, -, -, -⟩ := hR.M.shape
  have HR3 := Lib.hid hR
  have HLIKE := Lib.hid hlike
  have HX3 := Lib.hid (heap_gr hG3 (by omega) HX0.out)
  have HB3 := Lib.hid (HB2.out.trans (below_of_grown hG3 (by omega) HB2.out.size))
  have HS3 := Lib.hid hS3
  clear hR hlike hG3 hS2 HX0 HB2 hS3 hml hdl
  go_wp2_with fail
  refine (srates_any sb _ (srcOk_alloc HS3.out _)).mono ?_
  rintro e w4 ⟨v4, L4, rfl, ho4, hl4, -, hS4, hG4⟩
  obtain ⟨o4, c4, rfl⟩ := own_slice0 ho4
  have z4 := hG4.size
  simp only [World.size_alloc] at z4
  have HS4 := Lib.hid hS4
  have HL4 := Lib.hid ((sl_ints ho4 rfl).mono (Q := fun b => b ≠ sb ∧ b < w4.heap.size) (fun b h hl => ⟨by simp only [World.size_alloc] at h; omega, hl⟩))
  have HG4 := Lib.hid hG4
  have HLL4 := Lib.hid hl4
  clear ho4 hl4 hS4 hG4
  go_wp2_with fail
  refine (srates_any sb w4 HS4.out).mono ?_
  rintro e w5 ⟨v5, L5, rfl, ho5, hl5, -, hS5, hG5⟩
  obtain ⟨o5, c5, rfl⟩ := own_slice0 ho5
  have z5 := hG5.size
  have HO5 := Lib.hid ho5
  have HLL5 := Lib.hid hl5
  have HS5 := Lib.hid hS5
  have HG5 := Lib.hid (grownBy_trans HG4.out hG5)
  have HL45 := Lib.hid (HL4.out.grown hG5 (fun b h => h.1))
  clear ho5 hl5 hS5 hG5 HG4 HL4 HS4
  go_wp2_with fail
  refine (pick_lit sb [-1, 0, 20000, 20001, 9223372036854775807] _ _ _ w5 HS5.out (by decide) (by decide) rfl rfl rfl).mono ?_
  rintro e w6 ⟨u, hu, rfl, hS6, hG6⟩
  have hO6 := own_kept HO5.out hG6 (by omega)
  have z6 := hG6.size
  have HS6 := Lib.hid hS6
  have HG6 := Lib.hid (grownBy_trans HG5.out hG6)
  have HL46 := Lib.hid (HL45.out.grown hG6 (fun b h => h.1))
  have hlen5 : L5.length ≤ 6 := HLL5.out.2
  clear hS6 hG6 HG5 HL45 HS5 hu HO5
  obtain ⟨i1, hi, hz0, hz1, hz2⟩ := info_parts infoInt
  go_upto_region 7 with (at_builtin; go_must (refine wpList_append_own _ rfl _ _ 22 rfl w4.heap.size 3 i1 (.int .i64 0) 1 8 Try.underlying22 hi hz0 hz1 hz2 rfl (by decide) _ L5.length (flatE encI L5) rfl (hO6.alloc _) ⟨w6.heap.size, 0, none⟩ 1 1 (encI u) rfl rfl (newsL _ _ _) (one1 _ _) (by unfold maxLen; omega) (by omega) (by simp; omega) ?_); intro v7 w7 hown7 hg7 _; have HB7 := Lib.hid (show Below w4.heap.size w6 w7 from ((Below.refl _ w6).alloc (by omega) _).grown hg7 (by simp; omega) (fun q hq => (hO6.lt q hq).1)); have HOW := Lib.hid hown7; (obtain ⟨o7, c7, rfl⟩ := own_slice0 hown7); clear hg7 hown7)
  have z7 := HB7.out.size
  have hsb4 : sb < w4.heap.size := by omega
  have HST := Lib.hid (show RkS sb w.heap.size w3.heap.size w w7 (.slice r0 rn0 rc0) (.slice r1 rn1 rc1) (.slice r2 rn2 rc2) (.slice a0 n0 c0) (.slice a1 n1 c1) (.slice a2 n2 c2) R RR (.slice o4 L4.length c4) (.slice o7 (L5.length + 1) c7) (.slice l0 ln lc) L4 (L5 ++ [u]) RL from by
    have hbl6 : Below w.heap.size w w6 := (bal HB3.out _).trans (below_of_grown HG6.out (by omega) (by have := HB3.out.size; simp; omega))
    have hbl7 : Below w.heap.size w w7 := hbl6.trans (HB7.out.mono (by omega))
    exact ⟨(HB7.out.block _ (by omega)).trans (heap_gr HG6.out (by omega) ((heap_alloc_old _ _ (by omega)).trans HX3.out)), (HB7.out.block _ (by omega)).trans (heap_gr HG6.out (by omega) (heap_alloc_new _ _)),
      ((((HR3.out.mono (Q := fun b => b ≠ sb ∧ b < w3.heap.size) (fun b h hl => ⟨by omega, hl⟩)).below (bal brefl _)).grown HG6.out (fun b h => h.1)).belowB HB7.out (fun b h => by omega)).mono (fun b h _ => h.1),
      ((HRR.out.mono (Q := fun b => b < w.heap.size) (fun b _ hl => hl)).below hbl7).mono (fun b h _ => by omega),
      (HL46.out.belowB HB7.out (fun b h => h.2)).mono (fun b h _ => h.1),
      (sl_ints (n := L5.length + 1) (by rw [flatE_snoc]; exact HOW.out) (by simp)).mono (fun b h _ => by omega),
      ((HRL.out.mono (Q := fun b => b < w.heap.size) (fun b _ hl => hl)).below hbl7).mono (fun b h _ => by omega),
      srcOk_below HS6.out HB7.out hsb4, hbl7, by omega, by omega, Nat.le_refl _⟩)
  have HLR := Lib.hid (show LB R from ⟨by have := HLIKE.out.ok.ls; omega, by have := HLIKE.out.ok.hl; omega, by have := HLIKE.out.ok.lm; omega⟩)
  have HBS := Lib.hid (show (1 ≤ R.secs.length ∧ R.secs.length ≤ 1000) ∧ R.hs.length ≤ 1000 ∧ R.ms.length ≤ 1000 from ⟨⟨HLIKE.out.ne, by have := HLIKE.out.ok.ls; omega⟩, by have := HLIKE.out.ok.hl; omega, by have := HLIKE.out.ok.lm; omega⟩)
  have HL4' := Lib.hid (show L4.length ≤ 1000000 by have := HLL4.out; omega)
  have HL6' := Lib.hid (show (L5 ++ [u]).length ≤ 1000000 by simp; omega)
  have HZ := Lib.hid (show sb ≠ w3.heap.size by omega)
  clear HRR HRL HX3 HB3 HS3 HR3 HLIKE HG6 HL46 HOW HB7 HS6 hO6 HLL4 HLL5 hlen5 z7 z6 z5 z4 z3 z2 hlt hsb hsb4 hi hz0 hz1 hz2
  obtain ⟨W0, hW0⟩ : ∃ X, X = w7 := ⟨_, rfl⟩
  subst hW0
  go_wp2_with fail
  go_loopw [88] (fun kv wr => ∃ k : Nat, k ≤ 3 ∧ kv = .int .i64 k ∧ W0.grownBy wr (some sb) ∧ SrcOk wr sb) (fun kv _ => 3 - (intOf kv).toNat)
  case atStart => exact ⟨0, by omega, rfl, gr_of_below brefl sb, HST.out.so⟩
  case round =>
    obtain ⟨k, hk, rfl, hGr, hSr⟩ := hrel
    obtain ⟨V, hV⟩ : ∃ X, X = wr := ⟨_, rfl⟩
    subst hV
    have hst := HST.out.grown hGr hSr
    have HG0 := Lib.hid hGr
    by_cases hlt3 : k < 3
    · have hl : ∃ (lo : Option Addr) (lm lk : Nat) (L : List Int), L.length ≤ 1000000 ∧ Sl 1 encI (fun b => b ≠ sb) V (.slice lo lm lk) L ∧ ∀ W : World, (Instr.index 75 (.agg #[.slice o4 L4.length c4, .slice o7 (L5.length + 1) c7, .slice l0 ln lc]) (.int .i64 (k : Int))).run Try.prog W = .ok (.slice lo lm lk) W := by
        rcases (show k = 0 ∨ k = 1 ∨ k = 2 by omega) with rfl | rfl | rfl
        · exact ⟨o4, L4.length, c4, L4, HL4'.out, hst.s1, fun W => by kernel_rfl⟩
        · exact ⟨o7, L5.length + 1, c7, L5 ++ [u], HL6'.out, hst.s2, fun W => by kernel_rfl⟩
        · exact ⟨l0, ln, lc, RL, HLL.out, hst.s3, fun W => by kernel_rfl⟩
      obtain ⟨lo, lm, lk, L, hLn, hsl, hixl⟩ := hl
      have HLn := Lib.hid hLn
      have HSL := Lib.hid hsl
      have HSTk := Lib.hid hst
      have hlt3' : ((k : Int) < 3) = True := eq_true (by omega)
      obtain ⟨PB, hPB⟩ : ∃ b, pathB L = b := ⟨_, rfl⟩
      have hPP : (PB != PB) = false := by simp
      have K1 := path_any _ (.slice lo lm lk) L V hsl hLn
      have K2 := fpath_any _ (.slice lo lm lk) L V hsl hLn
      rw [hPB] at K1 K2
      have K1 := Lib.hid K1
      have K2 := Lib.hid K2
      clear hPB hsl hLn hst hGr hSr
      go_wp2_with fail
      refine K1.out.mono ?_
      rintro e w8 ⟨rfl, hw8⟩
      subst hw8
      go_wp2_with fail
      refine K2.out.mono ?_
      rintro e w8 ⟨rfl, hw8⟩
      subst hw8
      clear K1 K2
      go_wp2_with fail
      refine (shifted_any _ _ L bby V HSL.out HLn.out).mono ?_
      rintro e w8 ⟨sv, rfl, hown, hb8⟩
      have HA8 := Lib.hid (sl_ints hown rfl)
      have HB8 := Lib.hid hb8
      clear hown hb8
      go_wp2_with fail
      refine (fshifted_any _ _ L bby w8 (HSL.out.below HB8.out) HLn.out).mono ?_
      rintro e w9 ⟨tv, rfl, hown, hb9⟩
      have HA9 := Lib.hid (HA8.out.below hb9)
      have HC9 := Lib.hid (sl_ints hown rfl)
      have HB9 := Lib.hid (bup HB8.out hb9)
      clear hown hb9 HA8 HB8
      go_wp2_with fail
      refine (fints_eq _ _ _ _ _ w9 HA9.out HC9.out (shL_lb _ _ HLn.out)).mono ?_
      rintro e w10 ⟨rfl, hb10⟩
      have HST10 := Lib.hid (HSTk.out.below (bup HB9.out hb10))
      have HGK := Lib.hid (gr_of_below (bup HB9.out hb10) sb)
      clear hb10 HA9 HC9 HB9
      go_upto_region 12 with fail
      refine kC HST10 (Lib.hid (HSL.out.grown HGK.out (fun b h => h))) HLn HBS HLB HLR (by assumption) ?_
      intros
      rename_i wx hpost
      go_wp2
      go_roundw
      case rel => exact ⟨k + 1, by omega, by go_num, grownBy_trans HG0.out (grownBy_trans HGK.out hpost.1), hpost.2⟩
      case measure => simp [intOf]; omega
    · have hlt3' : ((k : Int) < 3) = False := eq_false (by omega)
      have HSTv := Lib.hid hst
      clear hGr hSr HG0 hst HST HL4' HL6' HLL
      go_upto_region 27 with fail
      refine kB HSTv HBS HLB HLR (by assumption) ?_
      intros
      rename_i wx hpost
      have HFIN := Lib.hid hpost
      clear hpost
      go_wp2_with fail
      refine (sane39_any _).mono ?_
      rintro e w2 ⟨rfl, hb2⟩
      go_wp2
      go_ret
      exact ⟨rfl, bup HFIN.out hb2⟩
end Go.Proofs.Ytpoidaenkjjdfaa
