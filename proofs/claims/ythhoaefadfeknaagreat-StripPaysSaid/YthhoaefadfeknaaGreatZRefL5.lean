/- the reference's register: Add. Printed by wip/gen/refl.py. the reference's register: Add. Printed by wip/gen/refl.py. -/
import Derived.Test.YthhoaefadfeknaaGreatZRefL
import Derived.Test.YthhoaefadfeknaaGreatZRefL2
import Derived.Test.YthhoaefadfeknaaGreatZRefL3
import Derived.Test.YthhoaefadfeknaaGreatZRefL4
namespace Go.Proofs.YthhoaefadfeknaaGreat
open Go.RowKit
set_option linter.unusedVariables false
set_option linter.unusedSimpArgs false
set_option maxHeartbeats 16000000 in
set_option maxRecDepth 100000 in
theorem fadd_bad (P : Nat → Prop) (vs vh vm : Value) (R : Reg) (id un is ma ra ev : Int) (ix : Bool) (w : World) (hr : RgIn P w vs vh vm R) (hS : R.secs.length ≤ 1000000) (hH : R.hs.length ≤ 1000000) (hM : R.ms.length ≤ 1000000) (hP : ∀ b, w.heap.size ≤ b → P b) (hx : chkE R ≠ 0) :
    Calls Tryz.prog 86 #[.agg #[vs, vh, vm], .agg #[.int .i64 id, .int .i64 un, .int .i64 is, .int .i64 ma, .int .i64 ra, .int .i64 ev, .bool ix]] w (GaveR P (raR R ⟨id, un, is, ma, ra, ev, ix⟩) (raE R ⟨id, un, is, ma, ra, ev, ix⟩) w) := by
  obtain ⟨a0, n0, c0, rfl, hn0, hnc0, hcm0⟩ := hr.S.shape
  obtain ⟨a1, n1, c1, rfl, -, -, -⟩ := hr.H.shape
  obtain ⟨a2, n2, c2, rfl, -, -, -⟩ := hr.M.shape
  have HC := Lib.hid (fun W hW => fcheck_any P _ _ _ R W (hr.below (w' := W) hW) hS hH hM)
  have HR := Lib.hid hr
  have HN0 := Lib.hid hn0
  obtain ⟨E0, hE0⟩ : ∃ E, chkE R = E := ⟨_, rfl⟩
  obtain ⟨E, hE⟩ : ∃ E, raE R ⟨id, un, is, ma, ra, ev, ix⟩ = E := ⟨_, rfl⟩
  obtain ⟨Q, hQ⟩ : ∃ Q, raR R ⟨id, un, is, ma, ra, ev, ix⟩ = Q := ⟨_, rfl⟩
  have hE2 := hE
  have hQ2 := hQ
  unfold raE at hE2
  unfold raR at hQ2
  rw [hE0] at HC hE2
  rw [hE] at hQ2
  rw [hE, hQ]
  have HE := Lib.hid hE2
  have HQ := Lib.hid hQ2
  have HE0 := Lib.hid hE0
  clear hr hE hQ hE2 hQ2 hE0 hn0
  have h0 : E0 ≠ 0 := by rw [← HE0.out]; exact hx
  have g1 : (E0 != 0) = true := by simpa using h0
  have g2 : (E0 == 0) = false := by simpa using h0
  have hf1 : E = E0 := by rw [← HE.out, if_neg h0]
  have hf2 : Q = ⟨[], [], []⟩ := by rw [← HQ.out, if_neg (by rw [hf1]; exact h0)]
  have HF1 := Lib.hid hf1
  have HF2 := Lib.hid hf2
  clear hf1 hf2
  go_enter Tryz.func86, Tryz.ntmps86
  go_wp2_with fail
  refine (HC.out _ (bal (bal (bal brefl _) _) _)).mono ?_
  rintro e w1 ⟨rfl, hb1⟩
  obtain ⟨hc, hf⟩ := bcell hb1
  have hz : w.heap.size + 1 + 1 < w1.heap.size := by have := hb1.size; simp at this; omega
  go_wp2
  refine bodyPost_ret (v := .tuple #[.agg #[.slice none 0 0, .slice none 0 0, .slice none 0 0], .int .i64 E0]) (by simp [results, Tryz.results86, go_sem, hc, hz]) rfl (gave_nil HF2.out HF1.out ?_)
  exact bset3 (bup (bal (bal (bal brefl _) _) _) hb1) (by omega) _ _ _
set_option maxHeartbeats 16000000 in
set_option maxRecDepth 100000 in
theorem fadd_there (P : Nat → Prop) (vs vh vm : Value) (R : Reg) (id un is ma ra ev : Int) (ix : Bool) (w : World) (hr : RgIn P w vs vh vm R) (hS : R.secs.length ≤ 1000000) (hH : R.hs.length ≤ 1000000) (hM : R.ms.length ≤ 1000000) (hP : ∀ b, w.heap.size ≤ b → P b) (hx : chkE R = 0) (S : Sec) (hf : findS R.secs id = some S) :
    Calls Tryz.prog 86 #[.agg #[vs, vh, vm], .agg #[.int .i64 id, .int .i64 un, .int .i64 is, .int .i64 ma, .int .i64 ra, .int .i64 ev, .bool ix]] w (GaveR P (raR R ⟨id, un, is, ma, ra, ev, ix⟩) (raE R ⟨id, un, is, ma, ra, ev, ix⟩) w) := by
  obtain ⟨a0, n0, c0, rfl, hn0, hnc0, hcm0⟩ := hr.S.shape
  obtain ⟨a1, n1, c1, rfl, -, -, -⟩ := hr.H.shape
  obtain ⟨a2, n2, c2, rfl, -, -, -⟩ := hr.M.shape
  have HC := Lib.hid (fun W hW => fcheck_any P _ _ _ R W (hr.below (w' := W) hW) hS hH hM)
  have HR := Lib.hid hr
  have HN0 := Lib.hid hn0
  obtain ⟨E0, hE0⟩ : ∃ E, chkE R = E := ⟨_, rfl⟩
  obtain ⟨E, hE⟩ : ∃ E, raE R ⟨id, un, is, ma, ra, ev, ix⟩ = E := ⟨_, rfl⟩
  obtain ⟨Q, hQ⟩ : ∃ Q, raR R ⟨id, un, is, ma, ra, ev, ix⟩ = Q := ⟨_, rfl⟩
  have hE2 := hE
  have hQ2 := hQ
  unfold raE at hE2
  unfold raR at hQ2
  rw [hE0] at HC hE2
  rw [hE] at hQ2
  rw [hE, hQ]
  have HE := Lib.hid hE2
  have HQ := Lib.hid hQ2
  have HE0 := Lib.hid hE0
  clear hr hE hQ hE2 hQ2 hE0 hn0
  have h0 : E0 = 0 := by rw [← HE0.out]; exact hx
  subst h0
  clear hx
  have hok := chkE_iff.1 HE0.out
  have his := isS_find (id := id) hok.secs
  have hi : isS R.secs id = true := by rw [his, hf]; rfl
  have hf1 : E = 76 := by rw [← HE.out, if_pos rfl, if_neg (by simp only; rw [hi]; simp)]
  have hf2 : Q = ⟨[], [], []⟩ := by rw [← HQ.out, if_neg (by rw [hf1]; omega)]
  have HF1 := Lib.hid hf1
  have HF2 := Lib.hid hf2
  obtain ⟨i2, u2, s2, m2, y2, e2, x2⟩ := S
  have HFD := Lib.hid (fun W hW => ffind_yes P _ _ _ R id _ _ _ _ _ _ _ W (HR.out.below (w' := W) hW) hS hf)
  clear hf1 hf2 hf hi his hok
  go_enter Tryz.func86, Tryz.ntmps86
  go_wp2_with fail
  refine (HC.out _ (bal (bal (bal brefl _) _) _)).mono ?_
  rintro e w1 ⟨rfl, hb1⟩
  have HB1 := Lib.hid (bup (bal (bal (bal brefl _) _) _) hb1)
  have zz := hb1.size
  simp only [World.size_alloc] at zz
  have HBM := Lib.hid (show w1.heap[w.heap.size + 1]? = some (.cells #[.int .i64 id, .int .i64 un, .int .i64 is, .int .i64 ma, .int .i64 ra, .int .i64 ev, .bool ix] 26 (0, 0)) from (hb1.block _ (by simp)).trans ((heap_alloc_old _ _ (by simp)).trans (heap_at (by simp))))
  have HBR := Lib.hid (show w1.heap[w.heap.size]? = some (.cells #[.slice a0 n0 c0, .slice a1 n1 c1, .slice a2 n2 c2] 31 (0, 0)) from (hb1.block _ (by simp; omega)).trans ((heap_alloc_old _ _ (by simp; omega)).trans ((heap_alloc_old _ _ (by simp)).trans (heap_alloc_new w _))))
  have HBX := Lib.hid (show w1.heap[w.heap.size + 1 + 1]? = some (.cells #[.slice none 0 0, .slice none 0 0, .slice none 0 0] 31 (0, 0)) from (hb1.block _ (by simp)).trans (heap_at (by simp)))
  clear hb1
  have b0 : w1.cell? ⟨w.heap.size + 1, 0, none⟩ = some (.int .i64 id) := cell_heap (i := 0) (HBM.out) rfl
  have b1 : w1.cell? ⟨w.heap.size + 1, 1, none⟩ = some (.int .i64 un) := cell_heap (i := 1) (HBM.out) rfl
  have b2 : w1.cell? ⟨w.heap.size + 1, 2, none⟩ = some (.int .i64 is) := cell_heap (i := 2) (HBM.out) rfl
  have b3 : w1.cell? ⟨w.heap.size + 1, 3, none⟩ = some (.int .i64 ma) := cell_heap (i := 3) (HBM.out) rfl
  have b4 : w1.cell? ⟨w.heap.size + 1, 4, none⟩ = some (.int .i64 ra) := cell_heap (i := 4) (HBM.out) rfl
  have b5 : w1.cell? ⟨w.heap.size + 1, 5, none⟩ = some (.int .i64 ev) := cell_heap (i := 5) (HBM.out) rfl
  have b6 : w1.cell? ⟨w.heap.size + 1, 6, none⟩ = some (.bool ix) := cell_heap (i := 6) (HBM.out) rfl
  have r0 : w1.cell? ⟨w.heap.size, 0, none⟩ = some (.slice a0 n0 c0) := cell_heap (i := 0) (HBR.out) rfl
  have r1 : w1.cell? ⟨w.heap.size, 1, none⟩ = some (.slice a1 n1 c1) := cell_heap (i := 1) (HBR.out) rfl
  have r2 : w1.cell? ⟨w.heap.size, 2, none⟩ = some (.slice a2 n2 c2) := cell_heap (i := 2) (HBR.out) rfl
  have x0 : w1.cell? ⟨w.heap.size + 1 + 1, 0, none⟩ = some (.slice none 0 0) := cell_heap (i := 0) (HBX.out) rfl
  have x1 : w1.cell? ⟨w.heap.size + 1 + 1, 1, none⟩ = some (.slice none 0 0) := cell_heap (i := 1) (HBX.out) rfl
  have x2 : w1.cell? ⟨w.heap.size + 1 + 1, 2, none⟩ = some (.slice none 0 0) := cell_heap (i := 2) (HBX.out) rfl
  have xf0 : w1.frozen? ⟨w.heap.size + 1 + 1, 0, none⟩ = false := frozen_of_row w1 _ _ _ _ (HBX.out)
  have xf1 : w1.frozen? ⟨w.heap.size + 1 + 1, 1, none⟩ = false := frozen_of_row w1 _ _ _ _ (HBX.out)
  have xf2 : w1.frozen? ⟨w.heap.size + 1 + 1, 2, none⟩ = false := frozen_of_row w1 _ _ _ _ (HBX.out)
  have rf0 : w1.frozen? ⟨w.heap.size, 0, none⟩ = false := frozen_of_row w1 _ _ _ _ (HBR.out)
  go_wp2_with fail
  refine (HFD.out _ HB1.out).mono ?_
  rintro e w2 ⟨rfl, hb2⟩
  have z2 := hb2.size
  clear b0 b1 b2 b3 b4 b5 b6 r0 r1 r2 x0 x1 x2 xf0 xf1 xf2 rf0
  have b0 : w2.cell? ⟨w.heap.size + 1, 0, none⟩ = some (.int .i64 id) := cell_heap (i := 0) ((hb2.block _ (by omega)).trans HBM.out) rfl
  have b1 : w2.cell? ⟨w.heap.size + 1, 1, none⟩ = some (.int .i64 un) := cell_heap (i := 1) ((hb2.block _ (by omega)).trans HBM.out) rfl
  have b2 : w2.cell? ⟨w.heap.size + 1, 2, none⟩ = some (.int .i64 is) := cell_heap (i := 2) ((hb2.block _ (by omega)).trans HBM.out) rfl
  have b3 : w2.cell? ⟨w.heap.size + 1, 3, none⟩ = some (.int .i64 ma) := cell_heap (i := 3) ((hb2.block _ (by omega)).trans HBM.out) rfl
  have b4 : w2.cell? ⟨w.heap.size + 1, 4, none⟩ = some (.int .i64 ra) := cell_heap (i := 4) ((hb2.block _ (by omega)).trans HBM.out) rfl
  have b5 : w2.cell? ⟨w.heap.size + 1, 5, none⟩ = some (.int .i64 ev) := cell_heap (i := 5) ((hb2.block _ (by omega)).trans HBM.out) rfl
  have b6 : w2.cell? ⟨w.heap.size + 1, 6, none⟩ = some (.bool ix) := cell_heap (i := 6) ((hb2.block _ (by omega)).trans HBM.out) rfl
  have r0 : w2.cell? ⟨w.heap.size, 0, none⟩ = some (.slice a0 n0 c0) := cell_heap (i := 0) ((hb2.block _ (by omega)).trans HBR.out) rfl
  have r1 : w2.cell? ⟨w.heap.size, 1, none⟩ = some (.slice a1 n1 c1) := cell_heap (i := 1) ((hb2.block _ (by omega)).trans HBR.out) rfl
  have r2 : w2.cell? ⟨w.heap.size, 2, none⟩ = some (.slice a2 n2 c2) := cell_heap (i := 2) ((hb2.block _ (by omega)).trans HBR.out) rfl
  have x0 : w2.cell? ⟨w.heap.size + 1 + 1, 0, none⟩ = some (.slice none 0 0) := cell_heap (i := 0) ((hb2.block _ (by omega)).trans HBX.out) rfl
  have x1 : w2.cell? ⟨w.heap.size + 1 + 1, 1, none⟩ = some (.slice none 0 0) := cell_heap (i := 1) ((hb2.block _ (by omega)).trans HBX.out) rfl
  have x2 : w2.cell? ⟨w.heap.size + 1 + 1, 2, none⟩ = some (.slice none 0 0) := cell_heap (i := 2) ((hb2.block _ (by omega)).trans HBX.out) rfl
  have xf0 : w2.frozen? ⟨w.heap.size + 1 + 1, 0, none⟩ = false := frozen_of_row w2 _ _ _ _ ((hb2.block _ (by omega)).trans HBX.out)
  have xf1 : w2.frozen? ⟨w.heap.size + 1 + 1, 1, none⟩ = false := frozen_of_row w2 _ _ _ _ ((hb2.block _ (by omega)).trans HBX.out)
  have xf2 : w2.frozen? ⟨w.heap.size + 1 + 1, 2, none⟩ = false := frozen_of_row w2 _ _ _ _ ((hb2.block _ (by omega)).trans HBX.out)
  have rf0 : w2.frozen? ⟨w.heap.size, 0, none⟩ = false := frozen_of_row w2 _ _ _ _ ((hb2.block _ (by omega)).trans HBR.out)
  have HB2 := Lib.hid (bup HB1.out hb2)
  clear hb2
  have zx2 : w.heap.size + 1 + 1 < w2.heap.size := by omega
  go_wp2
  refine bodyPost_ret (v := .tuple #[.agg #[.slice none 0 0, .slice none 0 0, .slice none 0 0], .int .i64 76]) (by simp [results, Tryz.results86, go_sem, zx2, x0, x1, x2]) rfl (gave_nil HF2.out HF1.out ?_)
  exact bal (bset3 HB2.out (by omega) _ _ _) _
set_option maxHeartbeats 16000000 in
set_option maxRecDepth 100000 in
theorem fadd_invalid (P : Nat → Prop) (vs vh vm : Value) (R : Reg) (id un is ma ra ev : Int) (ix : Bool) (w : World) (hr : RgIn P w vs vh vm R) (hS : R.secs.length ≤ 1000000) (hH : R.hs.length ≤ 1000000) (hM : R.ms.length ≤ 1000000) (hP : ∀ b, w.heap.size ≤ b → P b) (hx : chkE R = 0) (hf : findS R.secs id = none) (hso : secB id un is ma ra ev = false) :
    Calls Tryz.prog 86 #[.agg #[vs, vh, vm], .agg #[.int .i64 id, .int .i64 un, .int .i64 is, .int .i64 ma, .int .i64 ra, .int .i64 ev, .bool ix]] w (GaveR P (raR R ⟨id, un, is, ma, ra, ev, ix⟩) (raE R ⟨id, un, is, ma, ra, ev, ix⟩) w) := by
  obtain ⟨a0, n0, c0, rfl, hn0, hnc0, hcm0⟩ := hr.S.shape
  obtain ⟨a1, n1, c1, rfl, -, -, -⟩ := hr.H.shape
  obtain ⟨a2, n2, c2, rfl, -, -, -⟩ := hr.M.shape
  have HC := Lib.hid (fun W hW => fcheck_any P _ _ _ R W (hr.below (w' := W) hW) hS hH hM)
  have HR := Lib.hid hr
  have HN0 := Lib.hid hn0
  obtain ⟨E0, hE0⟩ : ∃ E, chkE R = E := ⟨_, rfl⟩
  obtain ⟨E, hE⟩ : ∃ E, raE R ⟨id, un, is, ma, ra, ev, ix⟩ = E := ⟨_, rfl⟩
  obtain ⟨Q, hQ⟩ : ∃ Q, raR R ⟨id, un, is, ma, ra, ev, ix⟩ = Q := ⟨_, rfl⟩
  have hE2 := hE
  have hQ2 := hQ
  unfold raE at hE2
  unfold raR at hQ2
  rw [hE0] at HC hE2
  rw [hE] at hQ2
  rw [hE, hQ]
  have HE := Lib.hid hE2
  have HQ := Lib.hid hQ2
  have HE0 := Lib.hid hE0
  clear hr hE hQ hE2 hQ2 hE0 hn0
  have h0 : E0 = 0 := by rw [← HE0.out]; exact hx
  subst h0
  clear hx
  have hok := chkE_iff.1 HE0.out
  have his := isS_find (id := id) hok.secs
  have hi : isS R.secs id = false := by rw [his, hf]; rfl
  have hf1 : E = 76 := by rw [← HE.out, if_pos rfl, if_neg (by unfold secOk; simp only; rw [hso]; simp)]
  have hf2 : Q = ⟨[], [], []⟩ := by rw [← HQ.out, if_neg (by rw [hf1]; omega)]
  have HF1 := Lib.hid hf1
  have HF2 := Lib.hid hf2
  have HOK := Lib.hid hso
  clear hf1 hf2 hso
  have HFD := Lib.hid (fun W hW => ffind_no P _ _ _ R id W (HR.out.below (w' := W) hW) hS hf)
  clear hf hi his hok
  go_enter Tryz.func86, Tryz.ntmps86
  go_wp2_with fail
  refine (HC.out _ (bal (bal (bal brefl _) _) _)).mono ?_
  rintro e w1 ⟨rfl, hb1⟩
  have HB1 := Lib.hid (bup (bal (bal (bal brefl _) _) _) hb1)
  have zz := hb1.size
  simp only [World.size_alloc] at zz
  have HBM := Lib.hid (show w1.heap[w.heap.size + 1]? = some (.cells #[.int .i64 id, .int .i64 un, .int .i64 is, .int .i64 ma, .int .i64 ra, .int .i64 ev, .bool ix] 26 (0, 0)) from (hb1.block _ (by simp)).trans ((heap_alloc_old _ _ (by simp)).trans (heap_at (by simp))))
  have HBR := Lib.hid (show w1.heap[w.heap.size]? = some (.cells #[.slice a0 n0 c0, .slice a1 n1 c1, .slice a2 n2 c2] 31 (0, 0)) from (hb1.block _ (by simp; omega)).trans ((heap_alloc_old _ _ (by simp; omega)).trans ((heap_alloc_old _ _ (by simp)).trans (heap_alloc_new w _))))
  have HBX := Lib.hid (show w1.heap[w.heap.size + 1 + 1]? = some (.cells #[.slice none 0 0, .slice none 0 0, .slice none 0 0] 31 (0, 0)) from (hb1.block _ (by simp)).trans (heap_at (by simp)))
  clear hb1
  have b0 : w1.cell? ⟨w.heap.size + 1, 0, none⟩ = some (.int .i64 id) := cell_heap (i := 0) (HBM.out) rfl
  have b1 : w1.cell? ⟨w.heap.size + 1, 1, none⟩ = some (.int .i64 un) := cell_heap (i := 1) (HBM.out) rfl
  have b2 : w1.cell? ⟨w.heap.size + 1, 2, none⟩ = some (.int .i64 is) := cell_heap (i := 2) (HBM.out) rfl
  have b3 : w1.cell? ⟨w.heap.size + 1, 3, none⟩ = some (.int .i64 ma) := cell_heap (i := 3) (HBM.out) rfl
  have b4 : w1.cell? ⟨w.heap.size + 1, 4, none⟩ = some (.int .i64 ra) := cell_heap (i := 4) (HBM.out) rfl
  have b5 : w1.cell? ⟨w.heap.size + 1, 5, none⟩ = some (.int .i64 ev) := cell_heap (i := 5) (HBM.out) rfl
  have b6 : w1.cell? ⟨w.heap.size + 1, 6, none⟩ = some (.bool ix) := cell_heap (i := 6) (HBM.out) rfl
  have r0 : w1.cell? ⟨w.heap.size, 0, none⟩ = some (.slice a0 n0 c0) := cell_heap (i := 0) (HBR.out) rfl
  have r1 : w1.cell? ⟨w.heap.size, 1, none⟩ = some (.slice a1 n1 c1) := cell_heap (i := 1) (HBR.out) rfl
  have r2 : w1.cell? ⟨w.heap.size, 2, none⟩ = some (.slice a2 n2 c2) := cell_heap (i := 2) (HBR.out) rfl
  have x0 : w1.cell? ⟨w.heap.size + 1 + 1, 0, none⟩ = some (.slice none 0 0) := cell_heap (i := 0) (HBX.out) rfl
  have x1 : w1.cell? ⟨w.heap.size + 1 + 1, 1, none⟩ = some (.slice none 0 0) := cell_heap (i := 1) (HBX.out) rfl
  have x2 : w1.cell? ⟨w.heap.size + 1 + 1, 2, none⟩ = some (.slice none 0 0) := cell_heap (i := 2) (HBX.out) rfl
  have xf0 : w1.frozen? ⟨w.heap.size + 1 + 1, 0, none⟩ = false := frozen_of_row w1 _ _ _ _ (HBX.out)
  have xf1 : w1.frozen? ⟨w.heap.size + 1 + 1, 1, none⟩ = false := frozen_of_row w1 _ _ _ _ (HBX.out)
  have xf2 : w1.frozen? ⟨w.heap.size + 1 + 1, 2, none⟩ = false := frozen_of_row w1 _ _ _ _ (HBX.out)
  have rf0 : w1.frozen? ⟨w.heap.size, 0, none⟩ = false := frozen_of_row w1 _ _ _ _ (HBR.out)
  go_wp2_with fail
  refine (HFD.out _ HB1.out).mono ?_
  rintro e w2 ⟨rfl, hb2⟩
  have z2 := hb2.size
  clear b0 b1 b2 b3 b4 b5 b6 r0 r1 r2 x0 x1 x2 xf0 xf1 xf2 rf0
  have b0 : w2.cell? ⟨w.heap.size + 1, 0, none⟩ = some (.int .i64 id) := cell_heap (i := 0) ((hb2.block _ (by omega)).trans HBM.out) rfl
  have b1 : w2.cell? ⟨w.heap.size + 1, 1, none⟩ = some (.int .i64 un) := cell_heap (i := 1) ((hb2.block _ (by omega)).trans HBM.out) rfl
  have b2 : w2.cell? ⟨w.heap.size + 1, 2, none⟩ = some (.int .i64 is) := cell_heap (i := 2) ((hb2.block _ (by omega)).trans HBM.out) rfl
  have b3 : w2.cell? ⟨w.heap.size + 1, 3, none⟩ = some (.int .i64 ma) := cell_heap (i := 3) ((hb2.block _ (by omega)).trans HBM.out) rfl
  have b4 : w2.cell? ⟨w.heap.size + 1, 4, none⟩ = some (.int .i64 ra) := cell_heap (i := 4) ((hb2.block _ (by omega)).trans HBM.out) rfl
  have b5 : w2.cell? ⟨w.heap.size + 1, 5, none⟩ = some (.int .i64 ev) := cell_heap (i := 5) ((hb2.block _ (by omega)).trans HBM.out) rfl
  have b6 : w2.cell? ⟨w.heap.size + 1, 6, none⟩ = some (.bool ix) := cell_heap (i := 6) ((hb2.block _ (by omega)).trans HBM.out) rfl
  have r0 : w2.cell? ⟨w.heap.size, 0, none⟩ = some (.slice a0 n0 c0) := cell_heap (i := 0) ((hb2.block _ (by omega)).trans HBR.out) rfl
  have r1 : w2.cell? ⟨w.heap.size, 1, none⟩ = some (.slice a1 n1 c1) := cell_heap (i := 1) ((hb2.block _ (by omega)).trans HBR.out) rfl
  have r2 : w2.cell? ⟨w.heap.size, 2, none⟩ = some (.slice a2 n2 c2) := cell_heap (i := 2) ((hb2.block _ (by omega)).trans HBR.out) rfl
  have x0 : w2.cell? ⟨w.heap.size + 1 + 1, 0, none⟩ = some (.slice none 0 0) := cell_heap (i := 0) ((hb2.block _ (by omega)).trans HBX.out) rfl
  have x1 : w2.cell? ⟨w.heap.size + 1 + 1, 1, none⟩ = some (.slice none 0 0) := cell_heap (i := 1) ((hb2.block _ (by omega)).trans HBX.out) rfl
  have x2 : w2.cell? ⟨w.heap.size + 1 + 1, 2, none⟩ = some (.slice none 0 0) := cell_heap (i := 2) ((hb2.block _ (by omega)).trans HBX.out) rfl
  have xf0 : w2.frozen? ⟨w.heap.size + 1 + 1, 0, none⟩ = false := frozen_of_row w2 _ _ _ _ ((hb2.block _ (by omega)).trans HBX.out)
  have xf1 : w2.frozen? ⟨w.heap.size + 1 + 1, 1, none⟩ = false := frozen_of_row w2 _ _ _ _ ((hb2.block _ (by omega)).trans HBX.out)
  have xf2 : w2.frozen? ⟨w.heap.size + 1 + 1, 2, none⟩ = false := frozen_of_row w2 _ _ _ _ ((hb2.block _ (by omega)).trans HBX.out)
  have rf0 : w2.frozen? ⟨w.heap.size, 0, none⟩ = false := frozen_of_row w2 _ _ _ _ ((hb2.block _ (by omega)).trans HBR.out)
  have HB2 := Lib.hid (bup HB1.out hb2)
  have hb2' := hb2
  clear hb2
  have zx : w.heap.size + 1 < w2.heap.size := by omega
  go_wp2_with fail
  refine (r33sec_any _ _ _ _ _ _ _ _).mono ?_
  rw [HOK.out]
  rintro e w3 ⟨rfl, hb3⟩
  have z3 := hb3.size
  rw [World.size_alloc] at z3
  clear b0 b1 b2 b3 b4 b5 b6 r0 r1 r2 x0 x1 x2 xf0 xf1 xf2 rf0
  have e3 : ∀ k, k < w1.heap.size → w3.heap[k]? = w1.heap[k]? := fun k hk => (hb3.block k (by rw [World.size_alloc]; omega)).trans ((heap_alloc_old w2 _ (by omega)).trans (hb2'.block k hk))
  have b0 : w3.cell? ⟨w.heap.size + 1, 0, none⟩ = some (.int .i64 id) := cell_heap (i := 0) ((e3 _ (by omega)).trans HBM.out) rfl
  have b1 : w3.cell? ⟨w.heap.size + 1, 1, none⟩ = some (.int .i64 un) := cell_heap (i := 1) ((e3 _ (by omega)).trans HBM.out) rfl
  have b2 : w3.cell? ⟨w.heap.size + 1, 2, none⟩ = some (.int .i64 is) := cell_heap (i := 2) ((e3 _ (by omega)).trans HBM.out) rfl
  have b3 : w3.cell? ⟨w.heap.size + 1, 3, none⟩ = some (.int .i64 ma) := cell_heap (i := 3) ((e3 _ (by omega)).trans HBM.out) rfl
  have b4 : w3.cell? ⟨w.heap.size + 1, 4, none⟩ = some (.int .i64 ra) := cell_heap (i := 4) ((e3 _ (by omega)).trans HBM.out) rfl
  have b5 : w3.cell? ⟨w.heap.size + 1, 5, none⟩ = some (.int .i64 ev) := cell_heap (i := 5) ((e3 _ (by omega)).trans HBM.out) rfl
  have b6 : w3.cell? ⟨w.heap.size + 1, 6, none⟩ = some (.bool ix) := cell_heap (i := 6) ((e3 _ (by omega)).trans HBM.out) rfl
  have r0 : w3.cell? ⟨w.heap.size, 0, none⟩ = some (.slice a0 n0 c0) := cell_heap (i := 0) ((e3 _ (by omega)).trans HBR.out) rfl
  have r1 : w3.cell? ⟨w.heap.size, 1, none⟩ = some (.slice a1 n1 c1) := cell_heap (i := 1) ((e3 _ (by omega)).trans HBR.out) rfl
  have r2 : w3.cell? ⟨w.heap.size, 2, none⟩ = some (.slice a2 n2 c2) := cell_heap (i := 2) ((e3 _ (by omega)).trans HBR.out) rfl
  have x0 : w3.cell? ⟨w.heap.size + 1 + 1, 0, none⟩ = some (.slice none 0 0) := cell_heap (i := 0) ((e3 _ (by omega)).trans HBX.out) rfl
  have x1 : w3.cell? ⟨w.heap.size + 1 + 1, 1, none⟩ = some (.slice none 0 0) := cell_heap (i := 1) ((e3 _ (by omega)).trans HBX.out) rfl
  have x2 : w3.cell? ⟨w.heap.size + 1 + 1, 2, none⟩ = some (.slice none 0 0) := cell_heap (i := 2) ((e3 _ (by omega)).trans HBX.out) rfl
  have xf0 : w3.frozen? ⟨w.heap.size + 1 + 1, 0, none⟩ = false := frozen_of_row w3 _ _ _ _ ((e3 _ (by omega)).trans HBX.out)
  have xf1 : w3.frozen? ⟨w.heap.size + 1 + 1, 1, none⟩ = false := frozen_of_row w3 _ _ _ _ ((e3 _ (by omega)).trans HBX.out)
  have xf2 : w3.frozen? ⟨w.heap.size + 1 + 1, 2, none⟩ = false := frozen_of_row w3 _ _ _ _ ((e3 _ (by omega)).trans HBX.out)
  have rf0 : w3.frozen? ⟨w.heap.size, 0, none⟩ = false := frozen_of_row w3 _ _ _ _ ((e3 _ (by omega)).trans HBR.out)
  have HB3 := Lib.hid (bup (bal HB2.out _) hb3)
  clear hb3 hb2' zx
  go_wp2
  refine bodyPost_ret (v := .tuple #[.agg #[.slice none 0 0, .slice none 0 0, .slice none 0 0], .int .i64 76]) (by simp [results, Tryz.results86, go_sem, x0, x1, x2]) rfl (gave_nil HF2.out HF1.out ?_)
  exact bset3 HB3.out (by omega) _ _ _
set_option maxHeartbeats 16000000 in
set_option maxRecDepth 100000 in
theorem fadd_full (P : Nat → Prop) (vs vh vm : Value) (R : Reg) (id un is ma ra ev : Int) (ix : Bool) (w : World) (hr : RgIn P w vs vh vm R) (hS : R.secs.length ≤ 1000000) (hH : R.hs.length ≤ 1000000) (hM : R.ms.length ≤ 1000000) (hP : ∀ b, w.heap.size ≤ b → P b) (hx : chkE R = 0) (hf : findS R.secs id = none) (hso : secB id un is ma ra ev = true) (hl : R.secs.length = 20) :
    Calls Tryz.prog 86 #[.agg #[vs, vh, vm], .agg #[.int .i64 id, .int .i64 un, .int .i64 is, .int .i64 ma, .int .i64 ra, .int .i64 ev, .bool ix]] w (GaveR P (raR R ⟨id, un, is, ma, ra, ev, ix⟩) (raE R ⟨id, un, is, ma, ra, ev, ix⟩) w) := by
  obtain ⟨a0, n0, c0, rfl, hn0, hnc0, hcm0⟩ := hr.S.shape
  obtain ⟨a1, n1, c1, rfl, -, -, -⟩ := hr.H.shape
  obtain ⟨a2, n2, c2, rfl, -, -, -⟩ := hr.M.shape
  have HC := Lib.hid (fun W hW => fcheck_any P _ _ _ R W (hr.below (w' := W) hW) hS hH hM)
  have HR := Lib.hid hr
  have HN0 := Lib.hid hn0
  obtain ⟨E0, hE0⟩ : ∃ E, chkE R = E := ⟨_, rfl⟩
  obtain ⟨E, hE⟩ : ∃ E, raE R ⟨id, un, is, ma, ra, ev, ix⟩ = E := ⟨_, rfl⟩
  obtain ⟨Q, hQ⟩ : ∃ Q, raR R ⟨id, un, is, ma, ra, ev, ix⟩ = Q := ⟨_, rfl⟩
  have hE2 := hE
  have hQ2 := hQ
  unfold raE at hE2
  unfold raR at hQ2
  rw [hE0] at HC hE2
  rw [hE] at hQ2
  rw [hE, hQ]
  have HE := Lib.hid hE2
  have HQ := Lib.hid hQ2
  have HE0 := Lib.hid hE0
  clear hr hE hQ hE2 hQ2 hE0 hn0
  have h0 : E0 = 0 := by rw [← HE0.out]; exact hx
  subst h0
  clear hx
  have hok := chkE_iff.1 HE0.out
  have his := isS_find (id := id) hok.secs
  have hi : isS R.secs id = false := by rw [his, hf]; rfl
  have hf1 : E = 3 := by rw [← HE.out, if_pos rfl, if_pos ⟨hso, hi⟩, if_pos hl]
  have hf2 : Q = ⟨[], [], []⟩ := by rw [← HQ.out, if_neg (by rw [hf1]; omega)]
  have HF1 := Lib.hid hf1
  have HF2 := Lib.hid hf2
  have HOK := Lib.hid hso
  have h20 : ((n0 : Int) == 20) = true := by have := HN0.out; simp; omega
  clear hf1 hf2 hso
  have HFD := Lib.hid (fun W hW => ffind_no P _ _ _ R id W (HR.out.below (w' := W) hW) hS hf)
  clear hf hi his hok
  go_enter Tryz.func86, Tryz.ntmps86
  go_wp2_with fail
  refine (HC.out _ (bal (bal (bal brefl _) _) _)).mono ?_
  rintro e w1 ⟨rfl, hb1⟩
  have HB1 := Lib.hid (bup (bal (bal (bal brefl _) _) _) hb1)
  have zz := hb1.size
  simp only [World.size_alloc] at zz
  have HBM := Lib.hid (show w1.heap[w.heap.size + 1]? = some (.cells #[.int .i64 id, .int .i64 un, .int .i64 is, .int .i64 ma, .int .i64 ra, .int .i64 ev, .bool ix] 26 (0, 0)) from (hb1.block _ (by simp)).trans ((heap_alloc_old _ _ (by simp)).trans (heap_at (by simp))))
  have HBR := Lib.hid (show w1.heap[w.heap.size]? = some (.cells #[.slice a0 n0 c0, .slice a1 n1 c1, .slice a2 n2 c2] 31 (0, 0)) from (hb1.block _ (by simp; omega)).trans ((heap_alloc_old _ _ (by simp; omega)).trans ((heap_alloc_old _ _ (by simp)).trans (heap_alloc_new w _))))
  have HBX := Lib.hid (show w1.heap[w.heap.size + 1 + 1]? = some (.cells #[.slice none 0 0, .slice none 0 0, .slice none 0 0] 31 (0, 0)) from (hb1.block _ (by simp)).trans (heap_at (by simp)))
  clear hb1
  have b0 : w1.cell? ⟨w.heap.size + 1, 0, none⟩ = some (.int .i64 id) := cell_heap (i := 0) (HBM.out) rfl
  have b1 : w1.cell? ⟨w.heap.size + 1, 1, none⟩ = some (.int .i64 un) := cell_heap (i := 1) (HBM.out) rfl
  have b2 : w1.cell? ⟨w.heap.size + 1, 2, none⟩ = some (.int .i64 is) := cell_heap (i := 2) (HBM.out) rfl
  have b3 : w1.cell? ⟨w.heap.size + 1, 3, none⟩ = some (.int .i64 ma) := cell_heap (i := 3) (HBM.out) rfl
  have b4 : w1.cell? ⟨w.heap.size + 1, 4, none⟩ = some (.int .i64 ra) := cell_heap (i := 4) (HBM.out) rfl
  have b5 : w1.cell? ⟨w.heap.size + 1, 5, none⟩ = some (.int .i64 ev) := cell_heap (i := 5) (HBM.out) rfl
  have b6 : w1.cell? ⟨w.heap.size + 1, 6, none⟩ = some (.bool ix) := cell_heap (i := 6) (HBM.out) rfl
  have r0 : w1.cell? ⟨w.heap.size, 0, none⟩ = some (.slice a0 n0 c0) := cell_heap (i := 0) (HBR.out) rfl
  have r1 : w1.cell? ⟨w.heap.size, 1, none⟩ = some (.slice a1 n1 c1) := cell_heap (i := 1) (HBR.out) rfl
  have r2 : w1.cell? ⟨w.heap.size, 2, none⟩ = some (.slice a2 n2 c2) := cell_heap (i := 2) (HBR.out) rfl
  have x0 : w1.cell? ⟨w.heap.size + 1 + 1, 0, none⟩ = some (.slice none 0 0) := cell_heap (i := 0) (HBX.out) rfl
  have x1 : w1.cell? ⟨w.heap.size + 1 + 1, 1, none⟩ = some (.slice none 0 0) := cell_heap (i := 1) (HBX.out) rfl
  have x2 : w1.cell? ⟨w.heap.size + 1 + 1, 2, none⟩ = some (.slice none 0 0) := cell_heap (i := 2) (HBX.out) rfl
  have xf0 : w1.frozen? ⟨w.heap.size + 1 + 1, 0, none⟩ = false := frozen_of_row w1 _ _ _ _ (HBX.out)
  have xf1 : w1.frozen? ⟨w.heap.size + 1 + 1, 1, none⟩ = false := frozen_of_row w1 _ _ _ _ (HBX.out)
  have xf2 : w1.frozen? ⟨w.heap.size + 1 + 1, 2, none⟩ = false := frozen_of_row w1 _ _ _ _ (HBX.out)
  have rf0 : w1.frozen? ⟨w.heap.size, 0, none⟩ = false := frozen_of_row w1 _ _ _ _ (HBR.out)
  go_wp2_with fail
  refine (HFD.out _ HB1.out).mono ?_
  rintro e w2 ⟨rfl, hb2⟩
  have z2 := hb2.size
  clear b0 b1 b2 b3 b4 b5 b6 r0 r1 r2 x0 x1 x2 xf0 xf1 xf2 rf0
  have b0 : w2.cell? ⟨w.heap.size + 1, 0, none⟩ = some (.int .i64 id) := cell_heap (i := 0) ((hb2.block _ (by omega)).trans HBM.out) rfl
  have b1 : w2.cell? ⟨w.heap.size + 1, 1, none⟩ = some (.int .i64 un) := cell_heap (i := 1) ((hb2.block _ (by omega)).trans HBM.out) rfl
  have b2 : w2.cell? ⟨w.heap.size + 1, 2, none⟩ = some (.int .i64 is) := cell_heap (i := 2) ((hb2.block _ (by omega)).trans HBM.out) rfl
  have b3 : w2.cell? ⟨w.heap.size + 1, 3, none⟩ = some (.int .i64 ma) := cell_heap (i := 3) ((hb2.block _ (by omega)).trans HBM.out) rfl
  have b4 : w2.cell? ⟨w.heap.size + 1, 4, none⟩ = some (.int .i64 ra) := cell_heap (i := 4) ((hb2.block _ (by omega)).trans HBM.out) rfl
  have b5 : w2.cell? ⟨w.heap.size + 1, 5, none⟩ = some (.int .i64 ev) := cell_heap (i := 5) ((hb2.block _ (by omega)).trans HBM.out) rfl
  have b6 : w2.cell? ⟨w.heap.size + 1, 6, none⟩ = some (.bool ix) := cell_heap (i := 6) ((hb2.block _ (by omega)).trans HBM.out) rfl
  have r0 : w2.cell? ⟨w.heap.size, 0, none⟩ = some (.slice a0 n0 c0) := cell_heap (i := 0) ((hb2.block _ (by omega)).trans HBR.out) rfl
  have r1 : w2.cell? ⟨w.heap.size, 1, none⟩ = some (.slice a1 n1 c1) := cell_heap (i := 1) ((hb2.block _ (by omega)).trans HBR.out) rfl
  have r2 : w2.cell? ⟨w.heap.size, 2, none⟩ = some (.slice a2 n2 c2) := cell_heap (i := 2) ((hb2.block _ (by omega)).trans HBR.out) rfl
  have x0 : w2.cell? ⟨w.heap.size + 1 + 1, 0, none⟩ = some (.slice none 0 0) := cell_heap (i := 0) ((hb2.block _ (by omega)).trans HBX.out) rfl
  have x1 : w2.cell? ⟨w.heap.size + 1 + 1, 1, none⟩ = some (.slice none 0 0) := cell_heap (i := 1) ((hb2.block _ (by omega)).trans HBX.out) rfl
  have x2 : w2.cell? ⟨w.heap.size + 1 + 1, 2, none⟩ = some (.slice none 0 0) := cell_heap (i := 2) ((hb2.block _ (by omega)).trans HBX.out) rfl
  have xf0 : w2.frozen? ⟨w.heap.size + 1 + 1, 0, none⟩ = false := frozen_of_row w2 _ _ _ _ ((hb2.block _ (by omega)).trans HBX.out)
  have xf1 : w2.frozen? ⟨w.heap.size + 1 + 1, 1, none⟩ = false := frozen_of_row w2 _ _ _ _ ((hb2.block _ (by omega)).trans HBX.out)
  have xf2 : w2.frozen? ⟨w.heap.size + 1 + 1, 2, none⟩ = false := frozen_of_row w2 _ _ _ _ ((hb2.block _ (by omega)).trans HBX.out)
  have rf0 : w2.frozen? ⟨w.heap.size, 0, none⟩ = false := frozen_of_row w2 _ _ _ _ ((hb2.block _ (by omega)).trans HBR.out)
  have HB2 := Lib.hid (bup HB1.out hb2)
  have hb2' := hb2
  clear hb2
  have zx : w.heap.size + 1 < w2.heap.size := by omega
  go_wp2_with fail
  refine (r33sec_any _ _ _ _ _ _ _ _).mono ?_
  rw [HOK.out]
  rintro e w3 ⟨rfl, hb3⟩
  have z3 := hb3.size
  rw [World.size_alloc] at z3
  clear b0 b1 b2 b3 b4 b5 b6 r0 r1 r2 x0 x1 x2 xf0 xf1 xf2 rf0
  have e3 : ∀ k, k < w1.heap.size → w3.heap[k]? = w1.heap[k]? := fun k hk => (hb3.block k (by rw [World.size_alloc]; omega)).trans ((heap_alloc_old w2 _ (by omega)).trans (hb2'.block k hk))
  have b0 : w3.cell? ⟨w.heap.size + 1, 0, none⟩ = some (.int .i64 id) := cell_heap (i := 0) ((e3 _ (by omega)).trans HBM.out) rfl
  have b1 : w3.cell? ⟨w.heap.size + 1, 1, none⟩ = some (.int .i64 un) := cell_heap (i := 1) ((e3 _ (by omega)).trans HBM.out) rfl
  have b2 : w3.cell? ⟨w.heap.size + 1, 2, none⟩ = some (.int .i64 is) := cell_heap (i := 2) ((e3 _ (by omega)).trans HBM.out) rfl
  have b3 : w3.cell? ⟨w.heap.size + 1, 3, none⟩ = some (.int .i64 ma) := cell_heap (i := 3) ((e3 _ (by omega)).trans HBM.out) rfl
  have b4 : w3.cell? ⟨w.heap.size + 1, 4, none⟩ = some (.int .i64 ra) := cell_heap (i := 4) ((e3 _ (by omega)).trans HBM.out) rfl
  have b5 : w3.cell? ⟨w.heap.size + 1, 5, none⟩ = some (.int .i64 ev) := cell_heap (i := 5) ((e3 _ (by omega)).trans HBM.out) rfl
  have b6 : w3.cell? ⟨w.heap.size + 1, 6, none⟩ = some (.bool ix) := cell_heap (i := 6) ((e3 _ (by omega)).trans HBM.out) rfl
  have r0 : w3.cell? ⟨w.heap.size, 0, none⟩ = some (.slice a0 n0 c0) := cell_heap (i := 0) ((e3 _ (by omega)).trans HBR.out) rfl
  have r1 : w3.cell? ⟨w.heap.size, 1, none⟩ = some (.slice a1 n1 c1) := cell_heap (i := 1) ((e3 _ (by omega)).trans HBR.out) rfl
  have r2 : w3.cell? ⟨w.heap.size, 2, none⟩ = some (.slice a2 n2 c2) := cell_heap (i := 2) ((e3 _ (by omega)).trans HBR.out) rfl
  have x0 : w3.cell? ⟨w.heap.size + 1 + 1, 0, none⟩ = some (.slice none 0 0) := cell_heap (i := 0) ((e3 _ (by omega)).trans HBX.out) rfl
  have x1 : w3.cell? ⟨w.heap.size + 1 + 1, 1, none⟩ = some (.slice none 0 0) := cell_heap (i := 1) ((e3 _ (by omega)).trans HBX.out) rfl
  have x2 : w3.cell? ⟨w.heap.size + 1 + 1, 2, none⟩ = some (.slice none 0 0) := cell_heap (i := 2) ((e3 _ (by omega)).trans HBX.out) rfl
  have xf0 : w3.frozen? ⟨w.heap.size + 1 + 1, 0, none⟩ = false := frozen_of_row w3 _ _ _ _ ((e3 _ (by omega)).trans HBX.out)
  have xf1 : w3.frozen? ⟨w.heap.size + 1 + 1, 1, none⟩ = false := frozen_of_row w3 _ _ _ _ ((e3 _ (by omega)).trans HBX.out)
  have xf2 : w3.frozen? ⟨w.heap.size + 1 + 1, 2, none⟩ = false := frozen_of_row w3 _ _ _ _ ((e3 _ (by omega)).trans HBX.out)
  have rf0 : w3.frozen? ⟨w.heap.size, 0, none⟩ = false := frozen_of_row w3 _ _ _ _ ((e3 _ (by omega)).trans HBR.out)
  have HB3 := Lib.hid (bup (bal HB2.out _) hb3)
  clear hb3 hb2' zx
  go_wp2
  refine bodyPost_ret (v := .tuple #[.agg #[.slice none 0 0, .slice none 0 0, .slice none 0 0], .int .i64 3]) (by simp [results, Tryz.results86, go_sem, x0, x1, x2]) rfl (gave_nil HF2.out HF1.out ?_)
  exact bset3 HB3.out (by omega) _ _ _
end Go.Proofs.YthhoaefadfeknaaGreat
namespace Go.Proofs.YthhoaefadfeknaaGreat
open Go.RowKit
set_option linter.unusedVariables false
set_option linter.unusedSimpArgs false
theorem fadd_any (P : Nat → Prop) (vs vh vm : Value) (R : Reg) (id un is ma ra ev : Int) (ix : Bool) (w : World) (hr : RgIn P w vs vh vm R) (hS : R.secs.length ≤ 1000000) (hH : R.hs.length ≤ 1000000) (hM : R.ms.length ≤ 1000000) (hP : ∀ b, w.heap.size ≤ b → P b) (hnz : vs = .slice none 0 0 ∨ 0 < R.secs.length) :
    Calls Tryz.prog 86 #[.agg #[vs, vh, vm], .agg #[.int .i64 id, .int .i64 un, .int .i64 is, .int .i64 ma, .int .i64 ra, .int .i64 ev, .bool ix]] w (GaveR P (raR R ⟨id, un, is, ma, ra, ev, ix⟩) (raE R ⟨id, un, is, ma, ra, ev, ix⟩) w) := by
  by_cases hx : chkE R = 0
  · cases hf : findS R.secs id with
    | some S => exact fadd_there P vs vh vm R id un is ma ra ev ix w hr hS hH hM hP hx S hf
    | none =>
      cases hso : secB id un is ma ra ev
      · exact fadd_invalid P vs vh vm R id un is ma ra ev ix w hr hS hH hM hP hx hf hso
      · by_cases hl : R.secs.length = 20
        · exact fadd_full P vs vh vm R id un is ma ra ev ix w hr hS hH hM hP hx hf hso hl
        · rcases hnz with hnz | hnz
          · exact fadd_go_nil P vs vh vm R id un is ma ra ev ix w hr hS hH hM hP hx hf hso hl hnz
          · by_cases hcq : ∃ a n, vs = .slice a n (posS R.secs id)
            · exact fadd_go_full P vs vh vm R id un is ma ra ev ix w hr hS hH hM hP hx hf hso hl hnz hcq
            · exact fadd_go_part P vs vh vm R id un is ma ra ev ix w hr hS hH hM hP hx hf hso hl hnz hcq
  · exact fadd_bad P vs vh vm R id un is ma ra ev ix w hr hS hH hM hP hx
end Go.Proofs.YthhoaefadfeknaaGreat
