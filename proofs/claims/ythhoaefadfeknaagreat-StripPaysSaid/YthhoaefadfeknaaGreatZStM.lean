/- Strips: Split. Printed by wip/gen/stm.py. -/
import Derived.Test.YthhoaefadfeknaaGreatZStL
import Derived.Deep.DeepCutAuto
namespace Go.Proofs.YthhoaefadfeknaaGreat
open Go.RowKit
set_option linter.unusedVariables false
set_option linter.unusedSimpArgs false
set_option maxHeartbeats 16000000 in
set_option maxRecDepth 100000 in
theorem stsplit_any (P : Nat → Prop) (vs vh vm vt : Value) (R : Reg) (L : List Stp) (day id h n : Int) (w : World) (hv : VkIn P w vs vh vm vt R L) (hP : ∀ b, w.heap.size + 2 ≤ b → P b) :
    Calls Tryz.prog 45 #[.agg #[vs, vh, vm, vt], .int .i64 day, .int .i64 id, .int .i64 h, .int .i64 n] w (GaveV P (spR R L day id h n) (spL R L day id h n) (spE R L day id h n) w) := by
  obtain ⟨a0, n0, c0, rfl, -, -, -⟩ := hv.rg.S.shape
  obtain ⟨a1, n1, c1, rfl, -, -, -⟩ := hv.rg.H.shape
  obtain ⟨a2, n2, c2, rfl, -, -, -⟩ := hv.rg.M.shape
  obtain ⟨a3, n3, c3, rfl, -, -, -⟩ := hv.st.shape
  have KS := fun U (hU : Below w.heap.size w U) => vsecurity_any P _ _ _ _ R L id U (hv.below hU)
  unfold GaveS at KS
  obtain ⟨E1, hE1⟩ : ∃ E, vsE R L id = E := ⟨_, rfl⟩
  obtain ⟨X, hX⟩ : ∃ X, vsS R L id = X := ⟨_, rfl⟩
  rw [hE1, hX] at KS
  obtain ⟨E, hE⟩ : ∃ E, spE R L day id h n = E := ⟨_, rfl⟩
  obtain ⟨RR, hRR⟩ : ∃ E, spR R L day id h n = E := ⟨_, rfl⟩
  obtain ⟨LL, hLL⟩ : ∃ E, spL R L day id h n = E := ⟨_, rfl⟩
  rw [hE, hRR, hLL]
  unfold spR at hRR
  unfold spL at hLL
  rw [hE] at hRR hLL
  rw [hX] at hLL
  unfold spE at hE
  rw [hE1, hX] at hE
  obtain ⟨fi, fu, fs, fm, fr, fe, fx⟩ := X
  simp only [valSec] at KS
  have KS := Lib.hid KS
  have HV := Lib.hid hv
  have HP := Lib.hid hP
  have HE := Lib.hid hE
  have HRR := Lib.hid hRR
  have HLL := Lib.hid hLL
  have HE1 := Lib.hid hE1
  have HX := Lib.hid hX
  clear hv hP hE hRR hLL hE1 hX
  by_cases h1 : E1 = 0
  case neg =>
    have hE := HE.out
    rw [if_neg h1] at hE
    subst hE
    have hR := HRR.out
    have hL := HLL.out
    rw [if_neg h1] at hR hL
    have HR0 := Lib.hid hR
    have HL0 := Lib.hid hL
    have g1 : (E1 != 0) = true := by simpa using h1
    have g2 : (E1 == 0) = false := by simpa using h1
    clear hR hL
    go_enter Tryz.func45, Tryz.ntmps45
    go_wp2_with fail
    refine (KS.out _ (bal (bal brefl _) _)).mono ?_
    rintro e w1 ⟨rfl, hb1⟩
    have r0 : w1.cell? ⟨w.heap.size + 1, 0, none⟩ = some (.slice none 0 0) := by have q := boxed_cell hb1 0 (v := .slice none 0 0) rfl; simpa using q
    have r1 : w1.cell? ⟨w.heap.size + 1, 1, none⟩ = some (.slice none 0 0) := by have q := boxed_cell hb1 1 (v := .slice none 0 0) rfl; simpa using q
    have r2 : w1.cell? ⟨w.heap.size + 1, 2, none⟩ = some (.slice none 0 0) := by have q := boxed_cell hb1 2 (v := .slice none 0 0) rfl; simpa using q
    have r3 : w1.cell? ⟨w.heap.size + 1, 3, none⟩ = some (.slice none 0 0) := by have q := boxed_cell hb1 3 (v := .slice none 0 0) rfl; simpa using q
    have rf := fun o => frozen_of_row w1 (w.heap.size + 1) o _ _ (show w1.heap[w.heap.size + 1]? = some (.cells #[.slice none 0 0, .slice none 0 0, .slice none 0 0, .slice none 0 0] 69 (0, 0)) from (hb1.block _ (by simp)).trans (heap_at (by simp)))
    have HB := Lib.hid (bup (bal (bal brefl _) _) hb1)
    have z1 : w.heap.size + 1 < w1.heap.size := by have := hb1.size; simp at this; omega
    clear hb1
    go_wp2
    refine bodyPost_ret (v := .tuple #[.agg #[.slice none 0 0, .slice none 0 0, .slice none 0 0, .slice none 0 0], .int .i64 E1]) (by simp [results, Tryz.results45, go_sem, *]) rfl (gaveV_nil HR0.out.symm HL0.out.symm rfl ?_)
    exact bal (vset4 HB.out (by omega) _ _ _ _) _
  subst h1
  have hvk := vkE_iff.1 (vsE_zero HE1.out)
  have HVK := Lib.hid hvk
  obtain ⟨E2, hE2⟩ : ∃ E, rmE R ⟨0, day, 2, id, h, 1000, n⟩ = E := ⟨_, rfl⟩
  obtain ⟨RT, hRT⟩ : ∃ E, rmR R ⟨0, day, 2, id, h, 1000, n⟩ = E := ⟨_, rfl⟩
  have KT := fun U (hU : Below w.heap.size w U) => rTransfer_any (fun b => P b ∧ b ≠ w.heap.size + 1) _ _ _ R day id h 1000 n U ((HV.out.rg.mono (Q := fun b => P b ∧ b ≠ w.heap.size + 1) (fun b hb hlt => ⟨hb, by omega⟩)).below hU) HV.out.lS HV.out.lH HV.out.lM (fun b hb => ⟨HP.out b (by have := hU.size; omega), by have := hU.size; omega⟩)
  rw [hE2, hRT] at KT
  have HKT := Lib.hid KT
  have HE2 := Lib.hid hE2
  have HRT := Lib.hid hRT
  have hE := HE.out
  rw [if_pos rfl, hE2] at hE
  have HEB := Lib.hid hE
  clear hvk KT hE hE2 hRT HE
  go_enter Tryz.func45, Tryz.ntmps45
  go_wp2_with fail
  refine (KS.out _ (bal (bal brefl _) _)).mono ?_
  rintro e w1 ⟨rfl, hb1⟩
  have b0 : w1.cell? ⟨w.heap.size, 0, none⟩ = some (.slice a0 n0 c0) := (hb1.cell (p := ⟨w.heap.size, 0, none⟩) (by simp; omega)).trans ((World.cell?_alloc_past _ _ _ (by simp)).trans (World.cell?_alloc_at _ _ _ _ rfl))
  have b1 : w1.cell? ⟨w.heap.size, 1, none⟩ = some (.slice a1 n1 c1) := (hb1.cell (p := ⟨w.heap.size, 1, none⟩) (by simp; omega)).trans ((World.cell?_alloc_past _ _ _ (by simp)).trans (World.cell?_alloc_at _ _ _ _ rfl))
  have b2 : w1.cell? ⟨w.heap.size, 2, none⟩ = some (.slice a2 n2 c2) := (hb1.cell (p := ⟨w.heap.size, 2, none⟩) (by simp; omega)).trans ((World.cell?_alloc_past _ _ _ (by simp)).trans (World.cell?_alloc_at _ _ _ _ rfl))
  have b3 : w1.cell? ⟨w.heap.size, 3, none⟩ = some (.slice a3 n3 c3) := (hb1.cell (p := ⟨w.heap.size, 3, none⟩) (by simp; omega)).trans ((World.cell?_alloc_past _ _ _ (by simp)).trans (World.cell?_alloc_at _ _ _ _ rfl))
  have r0 : w1.cell? ⟨w.heap.size + 1, 0, none⟩ = some (.slice none 0 0) := by have q := boxed_cell hb1 0 (v := .slice none 0 0) rfl; simpa using q
  have r1 : w1.cell? ⟨w.heap.size + 1, 1, none⟩ = some (.slice none 0 0) := by have q := boxed_cell hb1 1 (v := .slice none 0 0) rfl; simpa using q
  have r2 : w1.cell? ⟨w.heap.size + 1, 2, none⟩ = some (.slice none 0 0) := by have q := boxed_cell hb1 2 (v := .slice none 0 0) rfl; simpa using q
  have r3 : w1.cell? ⟨w.heap.size + 1, 3, none⟩ = some (.slice none 0 0) := by have q := boxed_cell hb1 3 (v := .slice none 0 0) rfl; simpa using q
  have rf := fun o => frozen_of_row w1 (w.heap.size + 1) o _ _ (show w1.heap[w.heap.size + 1]? = some (.cells #[.slice none 0 0, .slice none 0 0, .slice none 0 0, .slice none 0 0] 69 (0, 0)) from (hb1.block _ (by simp)).trans (heap_at (by simp)))
  have HB := Lib.hid (bup (bal (bal brefl _) _) hb1)
  have z1 : w.heap.size + 1 < w1.heap.size := by have := hb1.size; simp at this; omega
  clear hb1
  go_upto_region 2 with fail
  obtain ⟨W1, hW1⟩ : ∃ W, W = w1.alloc (.cells #[.int .i64 fi, .int .i64 fu, .int .i64 fs, .int .i64 fm, .int .i64 fr, .int .i64 fe, .bool fx] 26 (0, 0)) := ⟨_, rfl⟩
  try rw [← hW1]
  have HB1 := Lib.hid (show Below w1.heap.size w1 W1 by rw [hW1]; exact bal brefl _)
  have hzW : W1.heap.size = w1.heap.size + 1 := by rw [hW1]; simp
  have s0 : W1.cell? ⟨w1.heap.size, 0, none⟩ = some (.int .i64 fi) := by rw [hW1]; exact World.cell?_alloc_at _ _ _ _ rfl
  have s1 : W1.cell? ⟨w1.heap.size, 1, none⟩ = some (.int .i64 fu) := by rw [hW1]; exact World.cell?_alloc_at _ _ _ _ rfl
  have s2 : W1.cell? ⟨w1.heap.size, 2, none⟩ = some (.int .i64 fs) := by rw [hW1]; exact World.cell?_alloc_at _ _ _ _ rfl
  have s3 : W1.cell? ⟨w1.heap.size, 3, none⟩ = some (.int .i64 fm) := by rw [hW1]; exact World.cell?_alloc_at _ _ _ _ rfl
  have s4 : W1.cell? ⟨w1.heap.size, 4, none⟩ = some (.int .i64 fr) := by rw [hW1]; exact World.cell?_alloc_at _ _ _ _ rfl
  have s5 : W1.cell? ⟨w1.heap.size, 5, none⟩ = some (.int .i64 fe) := by rw [hW1]; exact World.cell?_alloc_at _ _ _ _ rfl
  have s6 : W1.cell? ⟨w1.heap.size, 6, none⟩ = some (.bool fx) := by rw [hW1]; exact World.cell?_alloc_at _ _ _ _ rfl
  clear hW1
  have v0 := keepB HB1.out b0
  have v1 := keepB HB1.out b1
  have v2 := keepB HB1.out b2
  have v3 := keepB HB1.out b3
  have q0 := keepB HB1.out r0
  have q1 := keepB HB1.out r1
  have q2 := keepB HB1.out r2
  have q3 := keepB HB1.out r3
  have rf1 := fun o => (HB1.out.frozen (p := ⟨w.heap.size + 1, o, none⟩) z1).trans (rf o)
  have HBW := Lib.hid (bup HB.out HB1.out)
  clear b0 b1 b2 b3 r0 r1 r2 r3 rf
  by_cases h2 : E2 = 0
  case neg =>
    have hE := HEB.out
    rw [if_neg h2] at hE
    subst hE
    have hR := HRR.out
    have hL := HLL.out
    rw [if_neg h2] at hR hL
    have HR0 := Lib.hid hR
    have HL0 := Lib.hid hL
    have g1 : (E2 != 0) = true := by simpa using h2
    have g2 : (E2 == 0) = false := by simpa using h2
    clear hR hL
    go_wp2_with fail
    refine (HKT.out _ HBW.out).mono ?_
    rintro e w2 hg
    obtain ⟨g0, i0, j0, g1', i1', j1', g2', i2', j2', rfl, hq2, hb2⟩ := hg.shape
    have y0 := keepB hb2 q0
    have y1 := keepB hb2 q1
    have y2 := keepB hb2 q2
    have y3 := keepB hb2 q3
    have rf2 := fun o => (hb2.frozen (p := ⟨w.heap.size + 1, o, none⟩) (by simp only; omega)).trans (rf1 o)
    have HB2 := Lib.hid (bup HBW.out hb2)
    have z2 : w.heap.size + 1 < w2.heap.size := by have := hb2.size; omega
    clear hg hq2 hb2 q0 q1 q2 q3 rf1
    go_wp2
    refine bodyPost_ret (v := .tuple #[.agg #[.slice none 0 0, .slice none 0 0, .slice none 0 0, .slice none 0 0], .int .i64 E2]) (by simp [results, Tryz.results45, go_sem, *]) rfl (gaveV_nil HR0.out.symm HL0.out.symm rfl ?_)
    exact bal (vset4 HB2.out (by omega) _ _ _ _) _
  subst h2
  have HRM := Lib.hid (rmE_pos HE2.out)
  obtain ⟨E3, hE3⟩ : ∃ E, prE L ⟨fi, fu, fs, fm, fr, fe, fx⟩ day = E := ⟨_, rfl⟩
  obtain ⟨PL, hPL⟩ : ∃ E, prL L ⟨fi, fu, fs, fm, fr, fe, fx⟩ day h = E := ⟨_, rfl⟩
  have KPR := fun U (hU : Below w.heap.size w U) => stparts_any P _ _ _ _ R L fi fu fs fm fr fe fx day h U (HV.out.below hU) HVK.out.amt (by have := HVK.out.ln; omega)
  have hAI := amtI_start HVK.out ⟨fi, fu, fs, fm, fr, fe, fx⟩ day h
  have hpl : PL.length ≤ 1301 := by
    rw [← hPL]; unfold prL; split
    · rw [List.length_map]; exact partsL_le _ _
    · simp
  have hEB := HEB.out
  have hLL := HLL.out
  unfold PrW at KPR
  rw [if_pos rfl, hE3, hPL] at hEB
  rw [hE3, hPL] at KPR
  rw [hPL] at hAI hLL
  have HPR := Lib.hid KPR
  have HAI := Lib.hid hAI
  have HEC := Lib.hid hEB
  have HLC := Lib.hid hLL
  clear KPR hAI hEB hLL hE3 hPL HEB HLL
  go_wp2_with fail
  refine (HKT.out _ HBW.out).mono ?_
  rintro e w2 hg
  obtain ⟨g0, i0, j0, g1, i1, j1, g2, i2, j2, rfl, hq2, hb2⟩ := hg.shape
  have HQ2 := Lib.hid hq2
  have HB2 := Lib.hid hb2
  have z2 : w1.heap.size + 1 ≤ w2.heap.size := by have := hb2.size; omega
  clear hg hq2 hb2
  have t0 := keepB HB2.out v0
  clear t0
  go_upto_region 5 with fail
  obtain ⟨W2, hW2⟩ : ∃ W, W = w2.alloc (.cells #[.slice g0 i0 j0, .slice g1 i1 j1, .slice g2 i2 j2] 31 (0, 0)) := ⟨_, rfl⟩
  try rw [← hW2]
  have HBA := Lib.hid (show Below w2.heap.size w2 W2 by rw [hW2]; exact bal brefl _)
  have HBB := Lib.hid (show Below W1.heap.size W1 W2 from bup HB2.out HBA.out)
  have hzW2 : W2.heap.size = w2.heap.size + 1 := by rw [hW2]; simp
  have p0 : W2.cell? ⟨w2.heap.size, 0, none⟩ = some (.slice g0 i0 j0) := by rw [hW2]; exact World.cell?_alloc_at _ _ _ _ rfl
  have p1 : W2.cell? ⟨w2.heap.size, 1, none⟩ = some (.slice g1 i1 j1) := by rw [hW2]; exact World.cell?_alloc_at _ _ _ _ rfl
  have p2 : W2.cell? ⟨w2.heap.size, 2, none⟩ = some (.slice g2 i2 j2) := by rw [hW2]; exact World.cell?_alloc_at _ _ _ _ rfl
  clear hW2
  replace v0 := keepB HBB.out v0
  replace v1 := keepB HBB.out v1
  replace v2 := keepB HBB.out v2
  replace v3 := keepB HBB.out v3
  replace q0 := keepB HBB.out q0
  replace q1 := keepB HBB.out q1
  replace q2 := keepB HBB.out q2
  replace q3 := keepB HBB.out q3
  replace s0 := keepB HBB.out s0
  replace s1 := keepB HBB.out s1
  replace s2 := keepB HBB.out s2
  replace s3 := keepB HBB.out s3
  replace s4 := keepB HBB.out s4
  replace s5 := keepB HBB.out s5
  replace s6 := keepB HBB.out s6
  have rf2 := fun o => (HBB.out.frozen (p := ⟨w.heap.size + 1, o, none⟩) (by simp only; omega)).trans (rf1 o)
  have HBC := Lib.hid (bup HBW.out HBB.out)
  clear rf1
  go_wp2_with fail
  refine (HPR.out _ HBC.out).mono ?_
  rintro e w3 ⟨v4, rfl, ho3, hb3⟩
  obtain ⟨po, pc, rfl⟩ := own_sl ho3
  have HO3 := Lib.hid ho3
  have HB3 := Lib.hid hb3
  have z3 : w2.heap.size + 1 ≤ w3.heap.size := by have := hb3.size; omega
  replace v0 := keepB hb3 v0
  replace v1 := keepB hb3 v1
  replace v2 := keepB hb3 v2
  replace v3 := keepB hb3 v3
  replace q0 := keepB hb3 q0
  replace q1 := keepB hb3 q1
  replace q2 := keepB hb3 q2
  replace q3 := keepB hb3 q3
  replace p0 := keepB hb3 p0
  replace p1 := keepB hb3 p1
  replace p2 := keepB hb3 p2
  have rf3 := fun o => (hb3.frozen (p := ⟨w.heap.size + 1, o, none⟩) (by simp only; omega)).trans (rf2 o)
  have HBD := Lib.hid (bup HBC.out hb3)
  clear ho3 hb3 rf2 s0 s1 s2 s3 s4 s5 s6
  by_cases h3 : E3 = 0
  case neg =>
    have hE := HEC.out
    rw [if_neg h3] at hE
    subst hE
    have hR := HRR.out
    have hL := HLC.out
    rw [if_neg h3] at hR hL
    have HR0 := Lib.hid hR
    have HL0 := Lib.hid hL
    have g1 : (E3 != 0) = true := by simpa using h3
    have g2 : (E3 == 0) = false := by simpa using h3
    clear hR hL
    go_wp2
    refine bodyPost_ret (v := .tuple #[.agg #[.slice none 0 0, .slice none 0 0, .slice none 0 0, .slice none 0 0], .int .i64 E3]) (by simp [results, Tryz.results45, go_sem, *]) rfl (gaveV_nil HR0.out.symm HL0.out.symm rfl ?_)
    exact vset4 HBD.out (by omega) _ _ _ _
  subst h3
  have KCL := Lib.hid (fun U (hU : Below w3.heap.size w3 U) => clone_from P _ L w3 U hU (HV.out.st.below (bup HBD.out hU)) HV.out.lL)
  have zl0 : w.heap.size < w3.heap.size := by omega
  have zl1 : w.heap.size + 1 < w3.heap.size := by omega
  have zl2 : w2.heap.size < w3.heap.size := by omega
  go_upto_region 10 with fail
  go_cut [16] (fun s16 wx => CutV (.slice g0 i0 j0) (.slice g1 i1 j1) (.slice g2 i2 j2) L w3 s16 wx)
  case first =>
    go_region_with (first | (go_at_call 117; refine (KCL.out _ (by first | exact brefl | exact bdr brefl | exact bal brefl _ | exact bal (bdr brefl) _ | exact bdr (bal brefl _))).mono ?_; rintro e w4 ⟨ao, cp, rfl, ho5, hx4, hb4⟩; have p0' := keepB hx4 p0; have p1' := keepB hx4 p1; have p2' := keepB hx4 p2; have zl4 : w2.heap.size < w4.heap.size := Nat.lt_of_lt_of_le zl2 hx4.size; (try (have hB4 : w4.heap[w3.heap.size]? = some (.cells #[.slice none 0 0, .slice none 0 0, .slice none 0 0, .slice none 0 0] 69 (0, 0)) := (hb4.block w3.heap.size (by show w3.heap.size < (w3.alloc _).heap.size; simp)).trans (show (w3.alloc (.cells #[.slice none 0 0, .slice none 0 0, .slice none 0 0, .slice none 0 0] 69)).heap[w3.heap.size]? = _ from heap_alloc_new w3 _); have x0 : w4.cell? ⟨w3.heap.size, 0, none⟩ = some (.slice none 0 0) := cell_heap hB4 rfl; have x1 : w4.cell? ⟨w3.heap.size, 1, none⟩ = some (.slice none 0 0) := cell_heap hB4 rfl; have x2 : w4.cell? ⟨w3.heap.size, 2, none⟩ = some (.slice none 0 0) := cell_heap hB4 rfl; have x3 : w4.cell? ⟨w3.heap.size, 3, none⟩ = some (.slice none 0 0) := cell_heap hB4 rfl; have xf : ∀ o, w4.frozen? ⟨w3.heap.size, o, none⟩ = false := fun o => frozen_of_row w4 w3.heap.size o _ _ hB4))))
    all_goals (go_wp2_with fail; go_meet)
    all_goals first
      | (have hq := hB4; exact cutV_set hq hx4 ho5)
      | exact cutV_new hx4 ho5
  case rest =>
    obtain ⟨B, ao, cp, rfl, hB, hB3, hBl, hown, hbc⟩ := hcut
    have HSP := Lib.hid ((Sl.own encStp_len HO3.out rfl (P := fun _ => True) (fun _ _ => trivial)))
    have HBX := Lib.hid hbc
    have RZ := Lib.hid (And.intro q0 (And.intro q1 (And.intro q2 q3)))
    have RF := Lib.hid rf3
    obtain ⟨q, hq⟩ : ∃ q, PL.length = q := ⟨_, rfl⟩
    have HQ := Lib.hid hq
    have hq1 : q ≤ 1301 := by omega
    have HOWN := Lib.hid hown
    have HHB := Lib.hid hB
    have hzw : w.heap.size + 1 < w3.heap.size := zl1
    obtain ⟨hn0, hn1⟩ := HRM.out
    try simp only at hn0 hn1
    rw [hq] at HSP
    rw [hq]
    clear hq v0 v1 v2 v3 p0 p1 p2 q0 q1 q2 q3 rf3 hB hown hbc
    go_wp2_with fail
    go_loopw [62] (fun iv wr => ∃ (k : Nat) (ao : Option Addr) (m c : Nat), k ≤ q ∧ iv = .int .i64 k ∧ wr.heap[B]? = some (.cells #[.slice g0 i0 j0, .slice g1 i1 j1, .slice g2 i2 j2, .slice ao m c] 69 (0, 0)) ∧ m = (addAll L (PL.take k) n).length ∧ wr.ownsRow w3.heap.size 88 5 (.slice ao m c) m (flatE encStp (addAll L (PL.take k) n)) ∧ Below w3.heap.size w3 wr) (fun iv _ => q - (intOf iv).toNat)
    case atStart => exact ⟨0, ao, _, cp, by omega, rfl, HHB.out, rfl, HOWN.out, HBX.out⟩
    case round =>
      obtain ⟨k, ao, m, c, hk, rfl, hB, hm, hown, hbr⟩ := hrel
      have hml := addAll_len (PL.take k) L n
      have hll := HVK.out.ln
      have htk : (PL.take k).length ≤ k := by rw [List.length_take]; omega
      have y3 : wr.cell? ⟨B, 3, none⟩ = some (.slice ao m c) := cell_heap hB rfl
      have hBs : B < wr.heap.size := World.block_lt_of_cell? _ _ y3
      have hzr := hbr.size
      by_cases hlt : k < q
      · obtain ⟨bb, off, ys, yd, yp, yh, ya, rfl, -, hbb, hL, k0, k1, k2, k3, k4⟩ := (HSP.out.below hbr).stp hlt
        have hai := AmtI.at_ HAI.out (n := n) (by omega) hn1 k
        have hnx : addAll L (PL.take (k + 1)) n = addP (addAll L (PL.take k) n) ys yd yp yh n := by rw [take_snocZ hL, addAll_snoc]
        obtain ⟨A, hA⟩ : ∃ A, addAll L (PL.take k) n = A := ⟨_, rfl⟩
        rw [hA] at hai hnx hm hown hml
        have KA := Lib.hid (fun (U : World) (ho : U.ownsRow w3.heap.size 88 5 (.slice ao m c) m (flatE encStp A)) (hU : w3.heap.size ≤ U.heap.size) => stadd_any w3.heap.size (.slice ao m c) A ys yd yp yh ya n U (by rw [← hm]; exact ho) hU hai.srt (by omega) (fun x hx => by have := hai.amt x hx; omega) (by omega) hn1 (by omega))
        have HNX := Lib.hid hnx
        have HM := Lib.hid hm
        have HOW := Lib.hid hown
        have HB := Lib.hid hB
        have HBR := Lib.hid hbr
        have kz : (k : Int) < (q : Int) := by omega
        clear hL hai hnx hA hm hown hB hbr hml
        go_wp2_with fail
        refine (KA.out _ (HOW.out.alloc _) (by simp; omega)).mono ?_
        rintro e w5 ⟨v5, rfl, ho5, hfr⟩
        obtain ⟨ao5, c5, rfl⟩ := own_sl ho5
        have hBU := (heap_alloc_old wr (.cells #[.int .i64 ys, .int .i64 yd, .bool yp, .int .i64 yh, .int .i64 ya] 88 (0, 0)) hBs).trans HB.out
        have hB5 := (hfr.2 B (by simp; omega) (fun cur hc => by rw [hBU] at hc; cases hc)).trans hBU
        have hb5 : Below w3.heap.size w3 w5 := HBR.out.trans ((bal brefl _ : Below wr.heap.size wr _).mono hzr |>.trans hfr.1)
        have y5 : w5.cell? ⟨B, 3, none⟩ = some (.slice ao m c) := cell_heap hB5 rfl
        have f5 : w5.frozen? ⟨B, 3, none⟩ = false := frozen_of_row w5 _ _ _ _ hB5
        have hB6 := heap_setCell_same w5 _ 3 _ _ (.slice ao5 (addP A ys yd yp yh n).length c5) hB5
        have ho6 := World.ownsRow.kept ho5 (grownBy_setCellZ w5 B 3 (.slice ao5 (addP A ys yd yp yh n).length c5)) (.inr (own_ne ho5 hB5 (by decide)))
        have HO6 := Lib.hid ho6
        have HB6 := Lib.hid hB6
        have HBL := Lib.hid (hb5.setCell (p := ⟨B, 3, none⟩) hB3 (.slice ao5 (addP A ys yd yp yh n).length c5))
        clear hBU hB5 hb5 hfr ho5 hB6 ho6
        go_wp2
        go_roundw
        case rel => exact ⟨k + 1, ao5, _, c5, by omega, by go_num, by rw [HB6.out]; rfl, by rw [HNX.out], by rw [HNX.out]; exact HO6.out, HBL.out⟩
        case measure => simp [intOf]; omega
      · obtain rfl : k = q := by omega
        rw [take_all (show PL.length ≤ k by have := HQ.out; omega)] at hm hown
        obtain ⟨q0, q1, q2, q3⟩ := RZ.out
        replace q0 := (hbr.cell (p := ⟨w.heap.size + 1, 0, none⟩) (by simp only; omega)).trans q0
        replace q1 := (hbr.cell (p := ⟨w.heap.size + 1, 1, none⟩) (by simp only; omega)).trans q1
        replace q2 := (hbr.cell (p := ⟨w.heap.size + 1, 2, none⟩) (by simp only; omega)).trans q2
        replace q3 := (hbr.cell (p := ⟨w.heap.size + 1, 3, none⟩) (by simp only; omega)).trans q3
        have rfr : ∀ o, wr.frozen? ⟨w.heap.size + 1, o, none⟩ = false := fun o => (hbr.frozen (p := ⟨w.heap.size + 1, o, none⟩) (by simp only; omega)).trans (RF.out o)
        have hwb := HBD.out.trans (hbr.mono (by omega))
        have z0 : w.heap.size + 1 < wr.heap.size := by omega
        have hE := HEC.out
        rw [if_pos trivial] at hE
        have HOW := Lib.hid hown
        have HWB := Lib.hid hwb
        have HM := Lib.hid hm
        have hne : ¬ (w.heap.size + 1 = B) := by omega
        have hne2 : ¬ (B = w.heap.size + 1) := by omega
        by_cases h4 : 400 < m
        · rw [if_pos (by rw [← hm]; exact h4)] at hE
          subst hE
          have hR := HRR.out
          have hL := HLC.out
          rw [if_neg (by omega)] at hR hL
          have HR0 := Lib.hid hR
          have HL0 := Lib.hid hL
          have mz : (400 : Int) < (m : Int) := by omega
          clear hR hL hm hown hbr hwb hB
          go_wp2
          refine bodyPost_ret (v := .tuple #[.agg #[.slice none 0 0, .slice none 0 0, .slice none 0 0, .slice none 0 0], .int .i64 3]) (by simp [results, Tryz.results45, go_sem, *]) rfl (gaveV_nil HR0.out.symm HL0.out.symm rfl ?_)
          exact vset4 HWB.out (by omega) _ _ _ _
        · rw [if_neg (by rw [← hm]; exact h4)] at hE
          subst hE
          have hR := HRR.out
          have hL := HLC.out
          rw [if_pos rfl] at hR hL
          rw [HRT.out] at hR
          have HR0 := Lib.hid hR
          have HL0 := Lib.hid hL
          have mz : ¬ (400 : Int) < (m : Int) := by omega
          have y0 : wr.cell? ⟨B, 0, none⟩ = some (.slice g0 i0 j0) := cell_heap hB rfl
          have y1 : wr.cell? ⟨B, 1, none⟩ = some (.slice g1 i1 j1) := cell_heap hB rfl
          have y2 : wr.cell? ⟨B, 2, none⟩ = some (.slice g2 i2 j2) := cell_heap hB rfl
          have hq5 : RgIn (fun b => P b ∧ b ≠ w.heap.size + 1) wr (.slice g0 i0 j0) (.slice g1 i1 j1) (.slice g2 i2 j2) RT := ((HQ2.out.below HBA.out).below HB3.out).below hbr
          have hs5 : Sl 5 encStp (fun b => P b ∧ b ≠ w.heap.size + 1) wr (.slice ao m c) (addAll L PL n) := Sl.own encStp_len hown hm.symm (fun b hb => ⟨HP.out b (by omega), by omega⟩)
          have hfin : GaveV P RR LL 0 w (.returned (.tuple #[.agg #[.slice g0 i0 j0, .slice g1 i1 j1, .slice g2 i2 j2, .slice ao m c], .int .i64 0])) ((((wr.setCell ⟨w.heap.size + 1, 0, none⟩ (.slice g0 i0 j0)).setCell ⟨w.heap.size + 1, 1, none⟩ (.slice g1 i1 j1)).setCell ⟨w.heap.size + 1, 2, none⟩ (.slice g2 i2 j2)).setCell ⟨w.heap.size + 1, 3, none⟩ (.slice ao m c)) := by
            have hg := vgrown4 wr (w.heap.size + 1) (.slice g0 i0 j0) (.slice g1 i1 j1) (.slice g2 i2 j2) (.slice ao m c)
            refine ⟨_, _, _, _, rfl, ?_, ?_, vset4 hwb (by omega) _ _ _ _⟩
            · rw [← hR]; exact (hq5.grown hg (fun b hb => hb.2)).mono (fun b hb _ => hb.1)
            · rw [← hL]; exact (hs5.grown hg (fun b hb => hb.2)).mono (fun b hb _ => hb.1)
          have HFIN := Lib.hid hfin
          clear hR hL hm hown hbr hwb hB hq5 hs5 hfin
          go_wp2
          refine bodyPost_ret (v := .tuple #[.agg #[.slice g0 i0 j0, .slice g1 i1 j1, .slice g2 i2 j2, .slice ao m c], .int .i64 0]) (by simp [results, Tryz.results45, go_sem, *]) rfl ?_
          exact HFIN.out
end Go.Proofs.YthhoaefadfeknaaGreat
