/- the reference's register: Add.  the reference's register: Add.  the reference's register: Add.  -/
import Derived.Test.YthjaofgdickkaaaGreatRefL
namespace Go.Proofs.YthjaofgdickkaaaGreat
open Go.RowKit
set_option linter.unusedVariables false
set_option linter.unusedSimpArgs false
set_option maxHeartbeats 16000000 in
set_option maxRecDepth 100000 in
theorem fadd_bad (P : Nat → Prop) (vs vh vm : Value) (R : Reg) (id un is ma ra ev : Int) (ix : Bool) (w : World) (hr : RgIn P w vs vh vm R) (hS : R.secs.length ≤ 1000000) (hH : R.hs.length ≤ 1000000) (hM : R.ms.length ≤ 1000000) (hP : ∀ b, w.heap.size ≤ b → P b) (hx : chkE R ≠ 0) :
    Calls Tryz.prog 122 #[.agg #[vs, vh, vm], .agg #[.int .i64 id, .int .i64 un, .int .i64 is, .int .i64 ma, .int .i64 ra, .int .i64 ev, .bool ix]] w (GaveR P (raR R ⟨id, un, is, ma, ra, ev, ix⟩) (raE R ⟨id, un, is, ma, ra, ev, ix⟩) w) := by
  obtain ⟨a0, n0, c0, rfl, hn0, hnc0, hcm0⟩ := hr.S.shape
  obtain ⟨a1, n1, c1, rfl, -, -, -⟩ := hr.H.shape
  obtain ⟨a2, n2, c2, rfl, -, -, -⟩ := hr.M.shape
  have HC := Lib.hid (fun W hW => fcheck_any P _ _ _ R W (hr.below (w' := W) hW) hS hH hM)
  have HR := Lib.hid hr
  have HN0 := Lib.hid hn0
  obtain ⟨E0, hE0⟩ : ∃ E, chkE R = E := ⟨_, rfl⟩
  obtain ⟨E, hE⟩ : ∃ E, raE R ⟨id, un, is, ma, ra, ev, ix⟩ = E := ⟨_, rfl⟩
  obtain ⟨Q, hQ⟩ : ∃ Q, raR R ⟨id, un, is, ma, ra, ev, ix⟩ = Q := ⟨_, rfl⟩
  have hE2 := hE
  have hQ2 := hQ
  unfold raE at hE2
  unfold raR at hQ2
  rw [hE0] at HC hE2
  rw [hE] at hQ2
  rw [hE, hQ]
  have HE := Lib.hid hE2
  have HQ := Lib.hid hQ2
  have HE0 := Lib.hid hE0
  clear hr hE hQ hE2 hQ2 hE0 hn0
  have h0 : E0 ≠ 0 := by rw [← HE0.out]; exact hx
  have g1 : (E0 != 0) = true := by simpa using h0
  have g2 : (E0 == 0) = false := by simpa using h0
  have hf1 : E = E0 := by rw [← HE.out, if_neg h0]
  have hf2 : Q = ⟨[], [], []⟩ := by rw [← HQ.out, if_neg (by rw [hf1]; exact h0)]
  have HF1 := Lib.hid hf1
  have HF2 := Lib.hid hf2
  clear hf1 hf2
  go_enter Tryz.func122, Tryz.ntmps122
  go_wp2_with fail
  refine (HC.out _ (bal (bal (bal brefl _) _) _)).mono ?_
  rintro e w1 ⟨rfl, hb1⟩
  obtain ⟨hc, hf⟩ := bcell hb1
  have hz : w.heap.size + 1 + 1 < w1.heap.size := by have := hb1.size; simp at this; omega
  go_wp2
  refine bodyPost_ret (v := .tuple #[.agg #[.slice none 0 0, .slice none 0 0, .slice none 0 0], .int .i64 E0]) (by simp [results, Tryz.results122, go_sem, hc, hz]) rfl (gave_nil HF2.out HF1.out ?_)
  exact bset3 (bup (bal (bal (bal brefl _) _) _) hb1) (by omega) _ _ _
set_option maxHeartbeats 16000000 in
set_option maxRecDepth 100000 in
theorem fadd_there (P : Nat → Prop) (vs vh vm : Value) (R : Reg) (id un is ma ra ev : Int) (ix : Bool) (w : World) (hr : RgIn P w vs vh vm R) (hS : R.secs.length ≤ 1000000) (hH : R.hs.length ≤ 1000000) (hM : R.ms.length ≤ 1000000) (hP : ∀ b, w.heap.size ≤ b → P b) (hx : chkE R = 0) (S : Sec) (hf : findS R.secs id = some S) :
    Calls Tryz.prog 122 #[.agg #[vs, vh, vm], .agg #[.int .i64 id, .int .i64 un, .int .i64 is, .int .i64 ma, .int .i64 ra, .int .i64 ev, .bool ix]] w (GaveR P (raR R ⟨id, un, is, ma, ra, ev, ix⟩) (raE R ⟨id, un, is, ma, ra, ev, ix⟩) w) := by
  obtain ⟨a0, n0, c0, rfl, hn0, hnc0, hcm0⟩ := hr.S.shape
  obtain ⟨a1, n1, c1, rfl, -, -, -⟩ := hr.H.shape
  obtain ⟨a2, n2, c2, rfl, -, -, -⟩ := hr.M.shape
  have HC := Lib.hid (fun W hW => fcheck_any P _ _ _ R W (hr.below (w' := W) hW) hS hH hM)
  have HR := Lib.hid hr
  have HN0 := Lib.hid hn0
  obtain ⟨E0, hE0⟩ : ∃ E, chkE R = E := ⟨_, rfl⟩
  obtain ⟨E, hE⟩ : ∃ E, raE R ⟨id, un, is, ma, ra, ev, ix⟩ = E := ⟨_, rfl⟩
  obtain ⟨Q, hQ⟩ : ∃ Q, raR R ⟨id, un, is, ma, ra, ev, ix⟩ = Q := ⟨_, rfl⟩
  have hE2 := hE
  have hQ2 := hQ
  unfold raE at hE2
  unfold raR at hQ2
  rw [hE0] at HC hE2
  rw [hE] at hQ2
  rw [hE, hQ]
  have HE := Lib.hid hE2
  have HQ := Lib.hid hQ2
  have HE0 := Lib.hid hE0
  clear hr hE hQ hE2 hQ2 hE0 hn0
  have h0 : E0 = 0 := by rw [← HE0.out]; exact hx
  subst h0
  clear hx
  have hok := chkE_iff.1 HE0.out
  have his := isS_find (id := id) hok.secs
  have hi : isS R.secs id = true := by rw [his, hf]; rfl
  have hf1 : E = 76 := by rw [← HE.out, if_pos rfl, if_neg (by simp only; rw [hi]; simp)]
  have hf2 : Q = ⟨[], [], []⟩ := by rw [← HQ.out, if_neg (by rw [hf1]; omega)]
  have HF1 := Lib.hid hf1
  have HF2 := Lib.hid hf2
  obtain ⟨i2, u2, s2, m2, y2, e2, x2⟩ := S
  have HFD := Lib.hid (fun W hW => ffind_yes P _ _ _ R id _ _ _ _ _ _ _ W (HR.out.below (w' := W) hW) hS hf)
  clear hf1 hf2 hf hi his hok
  go_enter Tryz.func122, Tryz.ntmps122
  go_wp2_with fail
  refine (HC.out _ (bal (bal (bal brefl _) _) _)).mono ?_
  rintro e w1 ⟨rfl, hb1⟩
  have HB1 := Lib.hid (bup (bal (bal (bal brefl _) _) _) hb1)
  have zz := hb1.size
  simp only [World.size_alloc] at zz
  have HBM := Lib.hid (show w1.heap[w.heap.size + 1]? = some (.cells #[.int .i64 id, .int .i64 un, .int .i64 is, .int .i64 ma, .int .i64 ra, .int .i64 ev, .bool ix] 26 (0, 0)) from (hb1.block _ (by simp)).trans ((heap_alloc_old _ _ (by simp)).trans (heap_at (by simp))))
  have HBR := Lib.hid (show w1.heap[w.heap.size]? = some (.cells #[.slice a0 n0 c0, .slice a1 n1 c1, .slice a2 n2 c2] 31 (0, 0)) from (hb1.block _ (by simp; omega)).trans ((heap_alloc_old _ _ (by simp; omega)).trans ((heap_alloc_old _ _ (by simp)).trans (heap_alloc_new w _))))
  have HBX := Lib.hid (show w1.heap[w.heap.size + 1 + 1]? = some (.cells #[.slice none 0 0, .slice none 0 0, .slice none 0 0] 31 (0, 0)) from (hb1.block _ (by simp)).trans (heap_at (by simp)))
  clear hb1
  have b0 : w1.cell? ⟨w.heap.size + 1, 0, none⟩ = some (.int .i64 id) := cell_heap (i := 0) (HBM.out) rfl
  have b1 : w1.cell? ⟨w.heap.size + 1, 1, none⟩ = some (.int .i64 un) := cell_heap (i := 1) (HBM.out) rfl
  have b2 : w1.cell? ⟨w.heap.size + 1, 2, none⟩ = some (.int .i64 is) := cell_heap (i := 2) (HBM.out) rfl
  have b3 : w1.cell? ⟨w.heap.size + 1, 3, none⟩ = some (.int .i64 ma) := cell_heap (i := 3) (HBM.out) rfl
  have b4 : w1.cell? ⟨w.heap.size + 1, 4, none⟩ = some (.int .i64 ra) := cell_heap (i := 4) (HBM.out) rfl
  have b5 : w1.cell? ⟨w.heap.size + 1, 5, none⟩ = some (.int .i64 ev) := cell_heap (i := 5) (HBM.out) rfl
  have b6 : w1.cell? ⟨w.heap.size + 1, 6, none⟩ = some (.bool ix) := cell_heap (i := 6) (HBM.out) rfl
  have r0 : w1.cell? ⟨w.heap.size, 0, none⟩ = some (.slice a0 n0 c0) := cell_heap (i := 0) (HBR.out) rfl
  have r1 : w1.cell? ⟨w.heap.size, 1, none⟩ = some (.slice a1 n1 c1) := cell_heap (i := 1) (HBR.out) rfl
  have r2 : w1.cell? ⟨w.heap.size, 2, none⟩ = some (.slice a2 n2 c2) := cell_heap (i := 2) (HBR.out) rfl
  have x0 : w1.cell? ⟨w.heap.size + 1 + 1, 0, none⟩ = some (.slice none 0 0) := cell_heap (i := 0) (HBX.out) rfl
  have x1 : w1.cell? ⟨w.heap.size + 1 + 1, 1, none⟩ = some (.slice none 0 0) := cell_heap (i := 1) (HBX.out) rfl
  have x2 : w1.cell? ⟨w.heap.size + 1 + 1, 2, none⟩ = some (.slice none 0 0) := cell_heap (i := 2) (HBX.out) rfl
  have xf0 : w1.frozen? ⟨w.heap.size + 1 + 1, 0, none⟩ = false := frozen_of_row w1 _ _ _ _ (HBX.out)
  have xf1 : w1.frozen? ⟨w.heap.size + 1 + 1, 1, none⟩ = false := frozen_of_row w1 _ _ _ _ (HBX.out)
  have xf2 : w1.frozen? ⟨w.heap.size + 1 + 1, 2, none⟩ = false := frozen_of_row w1 _ _ _ _ (HBX.out)
  have rf0 : w1.frozen? ⟨w.heap.size, 0, none⟩ = false := frozen_of_row w1 _ _ _ _ (HBR.out)
  go_wp2_with fail
  refine (HFD.out _ HB1.out).mono ?_
  rintro e w2 ⟨rfl, hb2⟩
  have z2 := hb2.size
  clear b0 b1 b2 b3 b4 b5 b6 r0 r1 r2 x0 x1 x2 xf0 xf1 xf2 rf0
  have b0 : w2.cell? ⟨w.heap.size + 1, 0, none⟩ = some (.int .i64 id) := cell_heap (i := 0) ((hb2.block _ (by omega)).trans HBM.out) rfl
  have b1 : w2.cell? ⟨w.heap.size + 1, 1, none⟩ = some (.int .i64 un) := cell_heap (i := 1) ((hb2.block _ (by omega)).trans HBM.out) rfl
  have b2 : w2.cell? ⟨w.heap.size + 1, 2, none⟩ = some (.int .i64 is) := cell_heap (i := 2) ((hb2.block _ (by omega)).trans HBM.out) rfl
  have b3 : w2.cell? ⟨w.heap.size + 1, 3, none⟩ = some (.int .i64 ma) := cell_heap (i := 3) ((hb2.block _ (by omega)).trans HBM.out) rfl
  have b4 : w2.cell? ⟨w.heap.size + 1, 4, none⟩ = some (.int .i64 ra) := cell_heap (i := 4) ((hb2.block _ (by omega)).trans HBM.out) rfl
  have b5 : w2.cell? ⟨w.heap.size + 1, 5, none⟩ = some (.int .i64 ev) := cell_heap (i := 5) ((hb2.block _ (by omega)).trans HBM.out) rfl
  have b6 : w2.cell? ⟨w.heap.size + 1, 6, none⟩ = some (.bool ix) := cell_heap (i := 6) ((hb2.block _ (by omega)).trans HBM.out) rfl
  have r0 : w2.cell? ⟨w.heap.size, 0, none⟩ = some (.slice a0 n0 c0) := cell_heap (i := 0) ((hb2.block _ (by omega)).trans HBR.out) rfl
  have r1 : w2.cell? ⟨w.heap.size, 1, none⟩ = some (.slice a1 n1 c1) := cell_heap (i := 1) ((hb2.block _ (by omega)).trans HBR.out) rfl
  have r2 : w2.cell? ⟨w.heap.size, 2, none⟩ = some (.slice a2 n2 c2) := cell_heap (i := 2) ((hb2.block _ (by omega)).trans HBR.out) rfl
  have x0 : w2.cell? ⟨w.heap.size + 1 + 1, 0, none⟩ = some (.slice none 0 0) := cell_heap (i := 0) ((hb2.block _ (by omega)).trans HBX.out) rfl
  have x1 : w2.cell? ⟨w.heap.size + 1 + 1, 1, none⟩ = some (.slice none 0 0) := cell_heap (i := 1) ((hb2.block _ (by omega)).trans HBX.out) rfl
  have x2 : w2.cell? ⟨w.heap.size + 1 + 1, 2, none⟩ = some (.slice none 0 0) := cell_heap (i := 2) ((hb2.block _ (by omega)).trans HBX.out) rfl
  have xf0 : w2.frozen? ⟨w.heap.size + 1 + 1, 0, none⟩ = false := frozen_of_row w2 _ _ _ _ ((hb2.block _ (by omega)).trans HBX.out)
  have xf1 : w2.frozen? ⟨w.heap.size + 1 + 1, 1, none⟩ = false := frozen_of_row w2 _ _ _ _ ((hb2.block _ (by omega)).trans HBX.out)
  have xf2 : w2.frozen? ⟨w.heap.size + 1 + 1, 2, none⟩ = false := frozen_of_row w2 _ _ _ _ ((hb2.block _ (by omega)).trans HBX.out)
  have rf0 : w2.frozen? ⟨w.heap.size, 0, none⟩ = false := frozen_of_row w2 _ _ _ _ ((hb2.block _ (by omega)).trans HBR.out)
  have HB2 := Lib.hid (bup HB1.out hb2)
  clear hb2
  have zx2 : w.heap.size + 1 + 1 < w2.heap.size := by omega
  go_wp2
  refine bodyPost_ret (v := .tuple #[.agg #[.slice none 0 0, .slice none 0 0, .slice none 0 0], .int .i64 76]) (by simp [results, Tryz.results122, go_sem, zx2, x0, x1, x2]) rfl (gave_nil HF2.out HF1.out ?_)
  exact bal (bset3 HB2.out (by omega) _ _ _) _
set_option maxHeartbeats 16000000 in
set_option maxRecDepth 100000 in
theorem fadd_invalid (P : Nat → Prop) (vs vh vm : Value) (R : Reg) (id un is ma ra ev : Int) (ix : Bool) (w : World) (hr : RgIn P w vs vh vm R) (hS : R.secs.length ≤ 1000000) (hH : R.hs.length ≤ 1000000) (hM : R.ms.length ≤ 1000000) (hP : ∀ b, w.heap.size ≤ b → P b) (hx : chkE R = 0) (hf : findS R.secs id = none) (hso : secB id un is ma ra ev = false) :
    Calls Tryz.prog 122 #[.agg #[vs, vh, vm], .agg #[.int .i64 id, .int .i64 un, .int .i64 is, .int .i64 ma, .int .i64 ra, .int .i64 ev, .bool ix]] w (GaveR P (raR R ⟨id, un, is, ma, ra, ev, ix⟩) (raE R ⟨id, un, is, ma, ra, ev, ix⟩) w) := by
  obtain ⟨a0, n0, c0, rfl, hn0, hnc0, hcm0⟩ := hr.S.shape
  obtain ⟨a1, n1, c1, rfl, -, -, -⟩ := hr.H.shape
  obtain ⟨a2, n2, c2, rfl, -, -, -⟩ := hr.M.shape
  have HC := Lib.hid (fun W hW => fcheck_any P _ _ _ R W (hr.below (w' := W) hW) hS hH hM)
  have HR := Lib.hid hr
  have HN0 := Lib.hid hn0
  obtain ⟨E0, hE0⟩ : ∃ E, chkE R = E := ⟨_, rfl⟩
  obtain ⟨E, hE⟩ : ∃ E, raE R ⟨id, un, is, ma, ra, ev, ix⟩ = E := ⟨_, rfl⟩
  obtain ⟨Q, hQ⟩ : ∃ Q, raR R ⟨id, un, is, ma, ra, ev, ix⟩ = Q := ⟨_, rfl⟩
  have hE2 := hE
  have hQ2 := hQ
  unfold raE at hE2
  unfold raR at hQ2
  rw [hE0] at HC hE2
  rw [hE] at hQ2
  rw [hE, hQ]
  have HE := Lib.hid hE2
  have HQ := Lib.hid hQ2
  have HE0 := Lib.hid hE0
  clear hr hE hQ hE2 hQ2 hE0 hn0
  have h0 : E0 = 0 := by rw [← HE0.out]; exact hx
  subst h0
  clear hx
  have hok := chkE_iff.1 HE0.out
  have his := isS_find (id := id) hok.secs
  have hi : isS R.secs id = false := by rw [his, hf]; rfl
  have hf1 : E = 76 := by rw [← HE.out, if_pos rfl, if_neg (by unfold secOk; simp only; rw [hso]; simp)]
  have hf2 : Q = ⟨[], [], []⟩ := by rw [← HQ.out, if_neg (by rw [hf1]; omega)]
  have HF1 := Lib.hid hf1
  have HF2 := Lib.hid hf2
  have HOK := Lib.hid hso
  clear hf1 hf2 hso
  have HFD := Lib.hid (fun W hW => ffind_no P _ _ _ R id W (HR.out.below (w' := W) hW) hS hf)
  clear hf hi his hok
  go_enter Tryz.func122, Tryz.ntmps122
  go_wp2_with fail
  refine (HC.out _ (bal (bal (bal brefl _) _) _)).mono ?_
  rintro e w1 ⟨rfl, hb1⟩
  have HB1 := Lib.hid (bup (bal (bal (bal brefl _) _) _) hb1)
  have zz := hb1.size
  simp only [World.size_alloc] at zz
  have HBM := Lib.hid (show w1.heap[w.heap.size + 1]? = some (.cells #[.int .i64 id, .int .i64 un, .int .i64 is, .int .i64 ma, .int .i64 ra, .int .i64 ev, .bool ix] 26 (0, 0)) from (hb1.block _ (by simp)).trans ((heap_alloc_old _ _ (by simp)).trans (heap_at (by simp))))
  have HBR := Lib.hid (show w1.heap[w.heap.size]? = some (.cells #[.slice a0 n0 c0, .slice a1 n1 c1, .slice a2 n2 c2] 31 (0, 0)) from (hb1.block _ (by simp; omega)).trans ((heap_alloc_old _ _ (by simp; omega)).trans ((heap_alloc_old _ _ (by simp)).trans (heap_alloc_new w _))))
  have HBX := Lib.hid (show w1.heap[w.heap.size + 1 + 1]? = some (.cells #[.slice none 0 0, .slice none 0 0, .slice none 0 0] 31 (0, 0)) from (hb1.block _ (by simp)).trans (heap_at (by simp)))
  clear hb1
  have b0 : w1.cell? ⟨w.heap.size + 1, 0, none⟩ = some (.int .i64 id) := cell_heap (i := 0) (HBM.out) rfl
  have b1 : w1.cell? ⟨w.heap.size + 1, 1, none⟩ = some (.int .i64 un) := cell_heap (i := 1) (HBM.out) rfl
  have b2 : w1.cell? ⟨w.heap.size + 1, 2, none⟩ = some (.int .i64 is) := cell_heap (i := 2) (HBM.out) rfl
  have b3 : w1.cell? ⟨w.heap.size + 1, 3, none⟩ = some (.int .i64 ma) := cell_heap (i := 3) (HBM.out) rfl
  have b4 : w1.cell? ⟨w.heap.size + 1, 4, none⟩ = some (.int .i64 ra) := cell_heap (i := 4) (HBM.out) rfl
  have b5 : w1.cell? ⟨w.heap.size + 1, 5, none⟩ = some (.int .i64 ev) := cell_heap (i := 5) (HBM.out) rfl
  have b6 : w1.cell? ⟨w.heap.size + 1, 6, none⟩ = some (.bool ix) := cell_heap (i := 6) (HBM.out) rfl
  have r0 : w1.cell? ⟨w.heap.size, 0, none⟩ = some (.slice a0 n0 c0) := cell_heap (i := 0) (HBR.out) rfl
  have r1 : w1.cell? ⟨w.heap.size, 1, none⟩ = some (.slice a1 n1 c1) := cell_heap (i := 1) (HBR.out) rfl
  have r2 : w1.cell? ⟨w.heap.size, 2, none⟩ = some (.slice a2 n2 c2) := cell_heap (i := 2) (HBR.out) rfl
  have x0 : w1.cell? ⟨w.heap.size + 1 + 1, 0, none⟩ = some (.slice none 0 0) := cell_heap (i := 0) (HBX.out) rfl
  have x1 : w1.cell? ⟨w.heap.size + 1 + 1, 1, none⟩ = some (.slice none 0 0) := cell_heap (i := 1) (HBX.out) rfl
  have x2 : w1.cell? ⟨w.heap.size + 1 + 1, 2, none⟩ = some (.slice none 0 0) := cell_heap (i := 2) (HBX.out) rfl
  have xf0 : w1.frozen? ⟨w.heap.size + 1 + 1, 0, none⟩ = false := frozen_of_row w1 _ _ _ _ (HBX.out)
  have xf1 : w1.frozen? ⟨w.heap.size + 1 + 1, 1, none⟩ = false := frozen_of_row w1 _ _ _ _ (HBX.out)
  have xf2 : w1.frozen? ⟨w.heap.size + 1 + 1, 2, none⟩ = false := frozen_of_row w1 _ _ _ _ (HBX.out)
  have rf0 : w1.frozen? ⟨w.heap.size, 0, none⟩ = false := frozen_of_row w1 _ _ _ _ (HBR.out)
  go_wp2_with fail
  refine (HFD.out _ HB1.out).mono ?_
  rintro e w2 ⟨rfl, hb2⟩
  have z2 := hb2.size
  clear b0 b1 b2 b3 b4 b5 b6 r0 r1 r2 x0 x1 x2 xf0 xf1 xf2 rf0
  have b0 : w2.cell? ⟨w.heap.size + 1, 0, none⟩ = some (.int .i64 id) := cell_heap (i := 0) ((hb2.block _ (by omega)).trans HBM.out) rfl
  have b1 : w2.cell? ⟨w.heap.size + 1, 1, none⟩ = some (.int .i64 un) := cell_heap (i := 1) ((hb2.block _ (by omega)).trans HBM.out) rfl
  have b2 : w2.cell? ⟨w.heap.size + 1, 2, none⟩ = some (.int .i64 is) := cell_heap (i := 2) ((hb2.block _ (by omega)).trans HBM.out) rfl
  have b3 : w2.cell? ⟨w.heap.size + 1, 3, none⟩ = some (.int .i64 ma) := cell_heap (i := 3) ((hb2.block _ (by omega)).trans HBM.out) rfl
  have b4 : w2.cell? ⟨w.heap.size + 1, 4, none⟩ = some (.int .i64 ra) := cell_heap (i := 4) ((hb2.block _ (by omega)).trans HBM.out) rfl
  have b5 : w2.cell? ⟨w.heap.size + 1, 5, none⟩ = some (.int .i64 ev) := cell_heap (i := 5) ((hb2.block _ (by omega)).trans HBM.out) rfl
  have b6 : w2.cell? ⟨w.heap.size + 1, 6, none⟩ = some (.bool ix) := cell_heap (i := 6) ((hb2.block _ (by omega)).trans HBM.out) rfl
  have r0 : w2.cell? ⟨w.heap.size, 0, none⟩ = some (.slice a0 n0 c0) := cell_heap (i := 0) ((hb2.block _ (by omega)).trans HBR.out) rfl
  have r1 : w2.cell? ⟨w.heap.size, 1, none⟩ = some (.slice a1 n1 c1) := cell_heap (i := 1) ((hb2.block _ (by omega)).trans HBR.out) rfl
  have r2 : w2.cell? ⟨w.heap.size, 2, none⟩ = some (.slice a2 n2 c2) := cell_heap (i := 2) ((hb2.block _ (by omega)).trans HBR.out) rfl
  have x0 : w2.cell? ⟨w.heap.size + 1 + 1, 0, none⟩ = some (.slice none 0 0) := cell_heap (i := 0) ((hb2.block _ (by omega)).trans HBX.out) rfl
  have x1 : w2.cell? ⟨w.heap.size + 1 + 1, 1, none⟩ = some (.slice none 0 0) := cell_heap (i := 1) ((hb2.block _ (by omega)).trans HBX.out) rfl
  have x2 : w2.cell? ⟨w.heap.size + 1 + 1, 2, none⟩ = some (.slice none 0 0) := cell_heap (i := 2) ((hb2.block _ (by omega)).trans HBX.out) rfl
  have xf0 : w2.frozen? ⟨w.heap.size + 1 + 1, 0, none⟩ = false := frozen_of_row w2 _ _ _ _ ((hb2.block _ (by omega)).trans HBX.out)
  have xf1 : w2.frozen? ⟨w.heap.size + 1 + 1, 1, none⟩ = false := frozen_of_row w2 _ _ _ _ ((hb2.block _ (by omega)).trans HBX.out)
  have xf2 : w2.frozen? ⟨w.heap.size + 1 + 1, 2, none⟩ = false := frozen_of_row w2 _ _ _ _ ((hb2.block _ (by omega)).trans HBX.out)
  have rf0 : w2.frozen? ⟨w.heap.size, 0, none⟩ = false := frozen_of_row w2 _ _ _ _ ((hb2.block _ (by omega)).trans HBR.out)
  have HB2 := Lib.hid (bup HB1.out hb2)
  have hb2' := hb2
  clear hb2
  have zx : w.heap.size + 1 < w2.heap.size := by omega
  go_wp2_with fail
  refine (r33sec_any _ _ _ _ _ _ _ _).mono ?_
  rw [HOK.out]
  rintro e w3 ⟨rfl, hb3⟩
  have z3 := hb3.size
  rw [World.size_alloc] at z3
  clear b0 b1 b2 b3 b4 b5 b6 r0 r1 r2 x0 x1 x2 xf0 xf1 xf2 rf0
  have e3 : ∀ k, k < w1.heap.size → w3.heap[k]? = w1.heap[k]? := fun k hk => (hb3.block k (by rw [World.size_alloc]; omega)).trans ((heap_alloc_old w2 _ (by omega)).trans (hb2'.block k hk))
  have b0 : w3.cell? ⟨w.heap.size + 1, 0, none⟩ = some (.int .i64 id) := cell_heap (i := 0) ((e3 _ (by omega)).trans HBM.out) rfl
  have b1 : w3.cell? ⟨w.heap.size + 1, 1, none⟩ = some (.int .i64 un) := cell_heap (i := 1) ((e3 _ (by omega)).trans HBM.out) rfl
  have b2 : w3.cell? ⟨w.heap.size + 1, 2, none⟩ = some (.int .i64 is) := cell_heap (i := 2) ((e3 _ (by omega)).trans HBM.out) rfl
  have b3 : w3.cell? ⟨w.heap.size + 1, 3, none⟩ = some (.int .i64 ma) := cell_heap (i := 3) ((e3 _ (by omega)).trans HBM.out) rfl
  have b4 : w3.cell? ⟨w.heap.size + 1, 4, none⟩ = some (.int .i64 ra) := cell_heap (i := 4) ((e3 _ (by omega)).trans HBM.out) rfl
  have b5 : w3.cell? ⟨w.heap.size + 1, 5, none⟩ = some (.int .i64 ev) := cell_heap (i := 5) ((e3 _ (by omega)).trans HBM.out) rfl
  have b6 : w3.cell? ⟨w.heap.size + 1, 6, none⟩ = some (.bool ix) := cell_heap (i := 6) ((e3 _ (by omega)).trans HBM.out) rfl
  have r0 : w3.cell? ⟨w.heap.size, 0, none⟩ = some (.slice a0 n0 c0) := cell_heap (i := 0) ((e3 _ (by omega)).trans HBR.out) rfl
  have r1 : w3.cell? ⟨w.heap.size, 1, none⟩ = some (.slice a1 n1 c1) := cell_heap (i := 1) ((e3 _ (by omega)).trans HBR.out) rfl
  have r2 : w3.cell? ⟨w.heap.size, 2, none⟩ = some (.slice a2 n2 c2) := cell_heap (i := 2) ((e3 _ (by omega)).trans HBR.out) rfl
  have x0 : w3.cell? ⟨w.heap.size + 1 + 1, 0, none⟩ = some (.slice none 0 0) := cell_heap (i := 0) ((e3 _ (by omega)).trans HBX.out) rfl
  have x1 : w3.cell? ⟨w.heap.size + 1 + 1, 1, none⟩ = some (.slice none 0 0) := cell_heap (i := 1) ((e3 _ (by omega)).trans HBX.out) rfl
  have x2 : w3.cell? ⟨w.heap.size + 1 + 1, 2, none⟩ = some (.slice none 0 0) := cell_heap (i := 2) ((e3 _ (by omega)).trans HBX.out) rfl
  have xf0 : w3.frozen? ⟨w.heap.size + 1 + 1, 0, none⟩ = false := frozen_of_row w3 _ _ _ _ ((e3 _ (by omega)).trans HBX.out)
  have xf1 : w3.frozen? ⟨w.heap.size + 1 + 1, 1, none⟩ = false := frozen_of_row w3 _ _ _ _ ((e3 _ (by omega)).trans HBX.out)
  have xf2 : w3.frozen? ⟨w.heap.size + 1 + 1, 2, none⟩ = false := frozen_of_row w3 _ _ _ _ ((e3 _ (by omega)).trans HBX.out)
  have rf0 : w3.frozen? ⟨w.heap.size, 0, none⟩ = false := frozen_of_row w3 _ _ _ _ ((e3 _ (by omega)).trans HBR.out)
  have HB3 := Lib.hid (bup (bal HB2.out _) hb3)
  clear hb3 hb2' zx
  go_wp2
  refine bodyPost_ret (v := .tuple #[.agg #[.slice none 0 0, .slice none 0 0, .slice none 0 0], .int .i64 76]) (by simp [results, Tryz.results122, go_sem, x0, x1, x2]) rfl (gave_nil HF2.out HF1.out ?_)
  exact bset3 HB3.out (by omega) _ _ _
set_option maxHeartbeats 16000000 in
set_option maxRecDepth 100000 in
theorem fadd_full (P : Nat → Prop) (vs vh vm : Value) (R : Reg) (id un is ma ra ev : Int) (ix : Bool) (w : World) (hr : RgIn P w vs vh vm R) (hS : R.secs.length ≤ 1000000) (hH : R.hs.length ≤ 1000000) (hM : R.ms.length ≤ 1000000) (hP : ∀ b, w.heap.size ≤ b → P b) (hx : chkE R = 0) (hf : findS R.secs id = none) (hso : secB id un is ma ra ev = true) (hl : R.secs.length = 20) :
    Calls Tryz.prog 122 #[.agg #[vs, vh, vm], .agg #[.int .i64 id, .int .i64 un, .int .i64 is, .int .i64 ma, .int .i64 ra, .int .i64 ev, .bool ix]] w (GaveR P (raR R ⟨id, un, is, ma, ra, ev, ix⟩) (raE R ⟨id, un, is, ma, ra, ev, ix⟩) w) := by
  obtain ⟨a0, n0, c0, rfl, hn0, hnc0, hcm0⟩ := hr.S.shape
  obtain ⟨a1, n1, c1, rfl, -, -, -⟩ := hr.H.shape
  obtain ⟨a2, n2, c2, rfl, -, -, -⟩ := hr.M.shape
  have HC := Lib.hid (fun W hW => fcheck_any P _ _ _ R W (hr.below (w' := W) hW) hS hH hM)
  have HR := Lib.hid hr
  have HN0 := Lib.hid hn0
  obtain ⟨E0, hE0⟩ : ∃ E, chkE R = E := ⟨_, rfl⟩
  obtain ⟨E, hE⟩ : ∃ E, raE R ⟨id, un, is, ma, ra, ev, ix⟩ = E := ⟨_, rfl⟩
  obtain ⟨Q, hQ⟩ : ∃ Q, raR R ⟨id, un, is, ma, ra, ev, ix⟩ = Q := ⟨_, rfl⟩
  have hE2 := hE
  have hQ2 := hQ
  unfold raE at hE2
  unfold raR at hQ2
  rw [hE0] at HC hE2
  rw [hE] at hQ2
  rw [hE, hQ]
  have HE := Lib.hid hE2
  have HQ := Lib.hid hQ2
  have HE0 := Lib.hid hE0
  clear hr hE hQ hE2 hQ2 hE0 hn0
  have h0 : E0 = 0 := by rw [← HE0.out]; exact hx
  subst h0
  clear hx
  have hok := chkE_iff.1 HE0.out
  have his := isS_find (id := id) hok.secs
  have hi : isS R.secs id = false := by rw [his, hf]; rfl
  have hf1 : E = 3 := by rw [← HE.out, if_pos rfl, if_pos ⟨hso, hi⟩, if_pos hl]
  have hf2 : Q = ⟨[], [], []⟩ := by rw [← HQ.out, if_neg (by rw [hf1]; omega)]
  have HF1 := Lib.hid hf1
  have HF2 := Lib.hid hf2
  have HOK := Lib.hid hso
  have h20 : ((n0 : Int) == 20) = true := by have := HN0.out; simp; omega
  clear hf1 hf2 hso
  have HFD := Lib.hid (fun W hW => ffind_no P _ _ _ R id W (HR.out.below (w' := W) hW) hS hf)
  clear hf hi his hok
  go_enter Tryz.func122, Tryz.ntmps122
  go_wp2_with fail
  refine (HC.out _ (bal (bal (bal brefl _) _) _)).mono ?_
  rintro e w1 ⟨rfl, hb1⟩
  have HB1 := Lib.hid (bup (bal (bal (bal brefl _) _) _) hb1)
  have zz := hb1.size
  simp only [World.size_alloc] at zz
  have HBM := Lib.hid (show w1.heap[w.heap.size + 1]? = some (.cells #[.int .i64 id, .int .i64 un, .int .i64 is, .int .i64 ma, .int .i64 ra, .int .i64 ev, .bool ix] 26 (0, 0)) from (hb1.block _ (by simp)).trans ((heap_alloc_old _ _ (by simp)).trans (heap_at (by simp))))
  have HBR := Lib.hid (show w1.heap[w.heap.size]? = some (.cells #[.slice a0 n0 c0, .slice a1 n1 c1, .slice a2 n2 c2] 31 (0, 0)) from (hb1.block _ (by simp; omega)).trans ((heap_alloc_old _ _ (by simp; omega)).trans ((heap_alloc_old _ _ (by simp)).trans (heap_alloc_new w _))))
  have HBX := Lib.hid (show w1.heap[w.heap.size + 1 + 1]? = some (.cells #[.slice none 0 0, .slice none 0 0, .slice none 0 0] 31 (0, 0)) from (hb1.block _ (by simp)).trans (heap_at (by simp)))
  clear hb1
  have b0 : w1.cell? ⟨w.heap.size + 1, 0, none⟩ = some (.int .i64 id) := cell_heap (i := 0) (HBM.out) rfl
  have b1 : w1.cell? ⟨w.heap.size + 1, 1, none⟩ = some (.int .i64 un) := cell_heap (i := 1) (HBM.out) rfl
  have b2 : w1.cell? ⟨w.heap.size + 1, 2, none⟩ = some (.int .i64 is) := cell_heap (i := 2) (HBM.out) rfl
  have b3 : w1.cell? ⟨w.heap.size + 1, 3, none⟩ = some (.int .i64 ma) := cell_heap (i := 3) (HBM.out) rfl
  have b4 : w1.cell? ⟨w.heap.size + 1, 4, none⟩ = some (.int .i64 ra) := cell_heap (i := 4) (HBM.out) rfl
  have b5 : w1.cell? ⟨w.heap.size + 1, 5, none⟩ = some (.int .i64 ev) := cell_heap (i := 5) (HBM.out) rfl
  have b6 : w1.cell? ⟨w.heap.size + 1, 6, none⟩ = some (.bool ix) := cell_heap (i := 6) (HBM.out) rfl
  have r0 : w1.cell? ⟨w.heap.size, 0, none⟩ = some (.slice a0 n0 c0) := cell_heap (i := 0) (HBR.out) rfl
  have r1 : w1.cell? ⟨w.heap.size, 1, none⟩ = some (.slice a1 n1 c1) := cell_heap (i := 1) (HBR.out) rfl
  have r2 : w1.cell? ⟨w.heap.size, 2, none⟩ = some (.slice a2 n2 c2) := cell_heap (i := 2) (HBR.out) rfl
  have x0 : w1.cell? ⟨w.heap.size + 1 + 1, 0, none⟩ = some (.slice none 0 0) := cell_heap (i := 0) (HBX.out) rfl
  have x1 : w1.cell? ⟨w.heap.size + 1 + 1, 1, none⟩ = some (.slice none 0 0) := cell_heap (i := 1) (HBX.out) rfl
  have x2 : w1.cell? ⟨w.heap.size + 1 + 1, 2, none⟩ = some (.slice none 0 0) := cell_heap (i := 2) (HBX.out) rfl
  have xf0 : w1.frozen? ⟨w.heap.size + 1 + 1, 0, none⟩ = false := frozen_of_row w1 _ _ _ _ (HBX.out)
  have xf1 : w1.frozen? ⟨w.heap.size + 1 + 1, 1, none⟩ = false := frozen_of_row w1 _ _ _ _ (HBX.out)
  have xf2 : w1.frozen? ⟨w.heap.size + 1 + 1, 2, none⟩ = false := frozen_of_row w1 _ _ _ _ (HBX.out)
  have rf0 : w1.frozen? ⟨w.heap.size, 0, none⟩ = false := frozen_of_row w1 _ _ _ _ (HBR.out)
  go_wp2_with fail
  refine (HFD.out _ HB1.out).mono ?_
  rintro e w2 ⟨rfl, hb2⟩
  have z2 := hb2.size
  clear b0 b1 b2 b3 b4 b5 b6 r0 r1 r2 x0 x1 x2 xf0 xf1 xf2 rf0
  have b0 : w2.cell? ⟨w.heap.size + 1, 0, none⟩ = some (.int .i64 id) := cell_heap (i := 0) ((hb2.block _ (by omega)).trans HBM.out) rfl
  have b1 : w2.cell? ⟨w.heap.size + 1, 1, none⟩ = some (.int .i64 un) := cell_heap (i := 1) ((hb2.block _ (by omega)).trans HBM.out) rfl
  have b2 : w2.cell? ⟨w.heap.size + 1, 2, none⟩ = some (.int .i64 is) := cell_heap (i := 2) ((hb2.block _ (by omega)).trans HBM.out) rfl
  have b3 : w2.cell? ⟨w.heap.size + 1, 3, none⟩ = some (.int .i64 ma) := cell_heap (i := 3) ((hb2.block _ (by omega)).trans HBM.out) rfl
  have b4 : w2.cell? ⟨w.heap.size + 1, 4, none⟩ = some (.int .i64 ra) := cell_heap (i := 4) ((hb2.block _ (by omega)).trans HBM.out) rfl
  have b5 : w2.cell? ⟨w.heap.size + 1, 5, none⟩ = some (.int .i64 ev) := cell_heap (i := 5) ((hb2.block _ (by omega)).trans HBM.out) rfl
  have b6 : w2.cell? ⟨w.heap.size + 1, 6, none⟩ = some (.bool ix) := cell_heap (i := 6) ((hb2.block _ (by omega)).trans HBM.out) rfl
  have r0 : w2.cell? ⟨w.heap.size, 0, none⟩ = some (.slice a0 n0 c0) := cell_heap (i := 0) ((hb2.block _ (by omega)).trans HBR.out) rfl
  have r1 : w2.cell? ⟨w.heap.size, 1, none⟩ = some (.slice a1 n1 c1) := cell_heap (i := 1) ((hb2.block _ (by omega)).trans HBR.out) rfl
  have r2 : w2.cell? ⟨w.heap.size, 2, none⟩ = some (.slice a2 n2 c2) := cell_heap (i := 2) ((hb2.block _ (by omega)).trans HBR.out) rfl
  have x0 : w2.cell? ⟨w.heap.size + 1 + 1, 0, none⟩ = some (.slice none 0 0) := cell_heap (i := 0) ((hb2.block _ (by omega)).trans HBX.out) rfl
  have x1 : w2.cell? ⟨w.heap.size + 1 + 1, 1, none⟩ = some (.slice none 0 0) := cell_heap (i := 1) ((hb2.block _ (by omega)).trans HBX.out) rfl
  have x2 : w2.cell? ⟨w.heap.size + 1 + 1, 2, none⟩ = some (.slice none 0 0) := cell_heap (i := 2) ((hb2.block _ (by omega)).trans HBX.out) rfl
  have xf0 : w2.frozen? ⟨w.heap.size + 1 + 1, 0, none⟩ = false := frozen_of_row w2 _ _ _ _ ((hb2.block _ (by omega)).trans HBX.out)
  have xf1 : w2.frozen? ⟨w.heap.size + 1 + 1, 1, none⟩ = false := frozen_of_row w2 _ _ _ _ ((hb2.block _ (by omega)).trans HBX.out)
  have xf2 : w2.frozen? ⟨w.heap.size + 1 + 1, 2, none⟩ = false := frozen_of_row w2 _ _ _ _ ((hb2.block _ (by omega)).trans HBX.out)
  have rf0 : w2.frozen? ⟨w.heap.size, 0, none⟩ = false := frozen_of_row w2 _ _ _ _ ((hb2.block _ (by omega)).trans HBR.out)
  have HB2 := Lib.hid (bup HB1.out hb2)
  have hb2' := hb2
  clear hb2
  have zx : w.heap.size + 1 < w2.heap.size := by omega
  go_wp2_with fail
  refine (r33sec_any _ _ _ _ _ _ _ _).mono ?_
  rw [HOK.out]
  rintro e w3 ⟨rfl, hb3⟩
  have z3 := hb3.size
  rw [World.size_alloc] at z3
  clear b0 b1 b2 b3 b4 b5 b6 r0 r1 r2 x0 x1 x2 xf0 xf1 xf2 rf0
  have e3 : ∀ k, k < w1.heap.size → w3.heap[k]? = w1.heap[k]? := fun k hk => (hb3.block k (by rw [World.size_alloc]; omega)).trans ((heap_alloc_old w2 _ (by omega)).trans (hb2'.block k hk))
  have b0 : w3.cell? ⟨w.heap.size + 1, 0, none⟩ = some (.int .i64 id) := cell_heap (i := 0) ((e3 _ (by omega)).trans HBM.out) rfl
  have b1 : w3.cell? ⟨w.heap.size + 1, 1, none⟩ = some (.int .i64 un) := cell_heap (i := 1) ((e3 _ (by omega)).trans HBM.out) rfl
  have b2 : w3.cell? ⟨w.heap.size + 1, 2, none⟩ = some (.int .i64 is) := cell_heap (i := 2) ((e3 _ (by omega)).trans HBM.out) rfl
  have b3 : w3.cell? ⟨w.heap.size + 1, 3, none⟩ = some (.int .i64 ma) := cell_heap (i := 3) ((e3 _ (by omega)).trans HBM.out) rfl
  have b4 : w3.cell? ⟨w.heap.size + 1, 4, none⟩ = some (.int .i64 ra) := cell_heap (i := 4) ((e3 _ (by omega)).trans HBM.out) rfl
  have b5 : w3.cell? ⟨w.heap.size + 1, 5, none⟩ = some (.int .i64 ev) := cell_heap (i := 5) ((e3 _ (by omega)).trans HBM.out) rfl
  have b6 : w3.cell? ⟨w.heap.size + 1, 6, none⟩ = some (.bool ix) := cell_heap (i := 6) ((e3 _ (by omega)).trans HBM.out) rfl
  have r0 : w3.cell? ⟨w.heap.size, 0, none⟩ = some (.slice a0 n0 c0) := cell_heap (i := 0) ((e3 _ (by omega)).trans HBR.out) rfl
  have r1 : w3.cell? ⟨w.heap.size, 1, none⟩ = some (.slice a1 n1 c1) := cell_heap (i := 1) ((e3 _ (by omega)).trans HBR.out) rfl
  have r2 : w3.cell? ⟨w.heap.size, 2, none⟩ = some (.slice a2 n2 c2) := cell_heap (i := 2) ((e3 _ (by omega)).trans HBR.out) rfl
  have x0 : w3.cell? ⟨w.heap.size + 1 + 1, 0, none⟩ = some (.slice none 0 0) := cell_heap (i := 0) ((e3 _ (by omega)).trans HBX.out) rfl
  have x1 : w3.cell? ⟨w.heap.size + 1 + 1, 1, none⟩ = some (.slice none 0 0) := cell_heap (i := 1) ((e3 _ (by omega)).trans HBX.out) rfl
  have x2 : w3.cell? ⟨w.heap.size + 1 + 1, 2, none⟩ = some (.slice none 0 0) := cell_heap (i := 2) ((e3 _ (by omega)).trans HBX.out) rfl
  have xf0 : w3.frozen? ⟨w.heap.size + 1 + 1, 0, none⟩ = false := frozen_of_row w3 _ _ _ _ ((e3 _ (by omega)).trans HBX.out)
  have xf1 : w3.frozen? ⟨w.heap.size + 1 + 1, 1, none⟩ = false := frozen_of_row w3 _ _ _ _ ((e3 _ (by omega)).trans HBX.out)
  have xf2 : w3.frozen? ⟨w.heap.size + 1 + 1, 2, none⟩ = false := frozen_of_row w3 _ _ _ _ ((e3 _ (by omega)).trans HBX.out)
  have rf0 : w3.frozen? ⟨w.heap.size, 0, none⟩ = false := frozen_of_row w3 _ _ _ _ ((e3 _ (by omega)).trans HBR.out)
  have HB3 := Lib.hid (bup (bal HB2.out _) hb3)
  clear hb3 hb2' zx
  go_wp2
  refine bodyPost_ret (v := .tuple #[.agg #[.slice none 0 0, .slice none 0 0, .slice none 0 0], .int .i64 3]) (by simp [results, Tryz.results122, go_sem, x0, x1, x2]) rfl (gave_nil HF2.out HF1.out ?_)
  exact bset3 HB3.out (by omega) _ _ _
set_option maxHeartbeats 16000000 in
set_option maxRecDepth 100000 in
theorem fadd_go_nil (P : Nat → Prop) (vs vh vm : Value) (R : Reg) (id un is ma ra ev : Int) (ix : Bool) (w : World) (hr : RgIn P w vs vh vm R) (hS : R.secs.length ≤ 1000000) (hH : R.hs.length ≤ 1000000) (hM : R.ms.length ≤ 1000000) (hP : ∀ b, w.heap.size ≤ b → P b) (hx : chkE R = 0) (hf : findS R.secs id = none) (hso : secB id un is ma ra ev = true) (hl : R.secs.length ≠ 20) (hnz : vs = .slice none 0 0) :
    Calls Tryz.prog 122 #[.agg #[vs, vh, vm], .agg #[.int .i64 id, .int .i64 un, .int .i64 is, .int .i64 ma, .int .i64 ra, .int .i64 ev, .bool ix]] w (GaveR P (raR R ⟨id, un, is, ma, ra, ev, ix⟩) (raE R ⟨id, un, is, ma, ra, ev, ix⟩) w) := by
  subst hnz
  have hn0 : R.secs.length = 0 := hr.S.len
  obtain ⟨a1, n1, c1, rfl, -, -, -⟩ := hr.H.shape
  obtain ⟨a2, n2, c2, rfl, -, -, -⟩ := hr.M.shape
  have HC := Lib.hid (fun W hW => fcheck_any P _ _ _ R W (hr.below (w' := W) hW) hS hH hM)
  have HR := Lib.hid hr
  have HN0 := Lib.hid hn0
  have hs0 : R.secs = [] := List.eq_nil_of_length_eq_zero hn0
  obtain ⟨E0, hE0⟩ : ∃ E, chkE R = E := ⟨_, rfl⟩
  obtain ⟨E, hE⟩ : ∃ E, raE R ⟨id, un, is, ma, ra, ev, ix⟩ = E := ⟨_, rfl⟩
  obtain ⟨Q, hQ⟩ : ∃ Q, raR R ⟨id, un, is, ma, ra, ev, ix⟩ = Q := ⟨_, rfl⟩
  have hE2 := hE
  have hQ2 := hQ
  unfold raE at hE2
  unfold raR at hQ2
  rw [hE0] at HC hE2
  rw [hE] at hQ2
  rw [hE, hQ]
  have HE := Lib.hid hE2
  have HQ := Lib.hid hQ2
  have HE0 := Lib.hid hE0
  clear hr hE hQ hE2 hQ2 hE0 hn0
  have h0 : E0 = 0 := by rw [← HE0.out]; exact hx
  subst h0
  clear hx
  have hok := chkE_iff.1 HE0.out
  have his := isS_find (id := id) hok.secs
  have hi : isS R.secs id = false := by rw [his, hf]; rfl
  have hf1 : E = 0 := by rw [← HE.out, if_pos rfl, if_pos ⟨hso, hi⟩, if_neg hl]
  subst hf1
  have hq0 : (⟨R.secs.take (posS R.secs id) ++ (⟨id, un, is, ma, ra, ev, ix⟩ : Sec) :: R.secs.drop (posS R.secs id), R.hs, R.ms⟩ : Reg) = Q := by rw [← HQ.out, if_pos rfl]
  have HQ0 := Lib.hid hq0
  have HOK := Lib.hid hso
  have h20 : ((0 : Int) == 20) = false := by decide
  skip
  have hqn := posS_le R.secs id
  rw [HN0.out] at hqn
  have hpos : ∀ {m : Nat} {x : Sec}, R.secs[m]? = some x → decide (x.id < id) = decide (m < posS R.secs id) := fun hx => lt_posS hok.secs hx
  obtain ⟨q, hq⟩ : ∃ q, posS R.secs id = q := ⟨_, rfl⟩
  rw [hq] at hq0 HQ0 hqn hpos
  obtain rfl : q = 0 := by omega
  have HPOS := Lib.hid (fun (m : Nat) (x : Sec) (hx : R.secs[m]? = some x) => hpos hx)
  clear hso hq0 hl hpos hq
  have HFD := Lib.hid (fun W hW => ffind_no P _ _ _ R id W (HR.out.below (w' := W) hW) hS hf)
  clear hf hi his hok
  go_enter Tryz.func122, Tryz.ntmps122
  go_wp2_with fail
  refine (HC.out _ (bal (bal (bal brefl _) _) _)).mono ?_
  rintro e w1 ⟨rfl, hb1⟩
  have HB1 := Lib.hid (bup (bal (bal (bal brefl _) _) _) hb1)
  have zz := hb1.size
  simp only [World.size_alloc] at zz
  have HBM := Lib.hid (show w1.heap[w.heap.size + 1]? = some (.cells #[.int .i64 id, .int .i64 un, .int .i64 is, .int .i64 ma, .int .i64 ra, .int .i64 ev, .bool ix] 26 (0, 0)) from (hb1.block _ (by simp)).trans ((heap_alloc_old _ _ (by simp)).trans (heap_at (by simp))))
  have HBR := Lib.hid (show w1.heap[w.heap.size]? = some (.cells #[.slice none 0 0, .slice a1 n1 c1, .slice a2 n2 c2] 31 (0, 0)) from (hb1.block _ (by simp; omega)).trans ((heap_alloc_old _ _ (by simp; omega)).trans ((heap_alloc_old _ _ (by simp)).trans (heap_alloc_new w _))))
  have HBX := Lib.hid (show w1.heap[w.heap.size + 1 + 1]? = some (.cells #[.slice none 0 0, .slice none 0 0, .slice none 0 0] 31 (0, 0)) from (hb1.block _ (by simp)).trans (heap_at (by simp)))
  clear hb1
  have b0 : w1.cell? ⟨w.heap.size + 1, 0, none⟩ = some (.int .i64 id) := cell_heap (i := 0) (HBM.out) rfl
  have b1 : w1.cell? ⟨w.heap.size + 1, 1, none⟩ = some (.int .i64 un) := cell_heap (i := 1) (HBM.out) rfl
  have b2 : w1.cell? ⟨w.heap.size + 1, 2, none⟩ = some (.int .i64 is) := cell_heap (i := 2) (HBM.out) rfl
  have b3 : w1.cell? ⟨w.heap.size + 1, 3, none⟩ = some (.int .i64 ma) := cell_heap (i := 3) (HBM.out) rfl
  have b4 : w1.cell? ⟨w.heap.size + 1, 4, none⟩ = some (.int .i64 ra) := cell_heap (i := 4) (HBM.out) rfl
  have b5 : w1.cell? ⟨w.heap.size + 1, 5, none⟩ = some (.int .i64 ev) := cell_heap (i := 5) (HBM.out) rfl
  have b6 : w1.cell? ⟨w.heap.size + 1, 6, none⟩ = some (.bool ix) := cell_heap (i := 6) (HBM.out) rfl
  have r0 : w1.cell? ⟨w.heap.size, 0, none⟩ = some (.slice none 0 0) := cell_heap (i := 0) (HBR.out) rfl
  have r1 : w1.cell? ⟨w.heap.size, 1, none⟩ = some (.slice a1 n1 c1) := cell_heap (i := 1) (HBR.out) rfl
  have r2 : w1.cell? ⟨w.heap.size, 2, none⟩ = some (.slice a2 n2 c2) := cell_heap (i := 2) (HBR.out) rfl
  have x0 : w1.cell? ⟨w.heap.size + 1 + 1, 0, none⟩ = some (.slice none 0 0) := cell_heap (i := 0) (HBX.out) rfl
  have x1 : w1.cell? ⟨w.heap.size + 1 + 1, 1, none⟩ = some (.slice none 0 0) := cell_heap (i := 1) (HBX.out) rfl
  have x2 : w1.cell? ⟨w.heap.size + 1 + 1, 2, none⟩ = some (.slice none 0 0) := cell_heap (i := 2) (HBX.out) rfl
  have xf0 : w1.frozen? ⟨w.heap.size + 1 + 1, 0, none⟩ = false := frozen_of_row w1 _ _ _ _ (HBX.out)
  have xf1 : w1.frozen? ⟨w.heap.size + 1 + 1, 1, none⟩ = false := frozen_of_row w1 _ _ _ _ (HBX.out)
  have xf2 : w1.frozen? ⟨w.heap.size + 1 + 1, 2, none⟩ = false := frozen_of_row w1 _ _ _ _ (HBX.out)
  have rf0 : w1.frozen? ⟨w.heap.size, 0, none⟩ = false := frozen_of_row w1 _ _ _ _ (HBR.out)
  go_wp2_with fail
  refine (HFD.out _ HB1.out).mono ?_
  rintro e w2 ⟨rfl, hb2⟩
  have z2 := hb2.size
  clear b0 b1 b2 b3 b4 b5 b6 r0 r1 r2 x0 x1 x2 xf0 xf1 xf2 rf0
  have b0 : w2.cell? ⟨w.heap.size + 1, 0, none⟩ = some (.int .i64 id) := cell_heap (i := 0) ((hb2.block _ (by omega)).trans HBM.out) rfl
  have b1 : w2.cell? ⟨w.heap.size + 1, 1, none⟩ = some (.int .i64 un) := cell_heap (i := 1) ((hb2.block _ (by omega)).trans HBM.out) rfl
  have b2 : w2.cell? ⟨w.heap.size + 1, 2, none⟩ = some (.int .i64 is) := cell_heap (i := 2) ((hb2.block _ (by omega)).trans HBM.out) rfl
  have b3 : w2.cell? ⟨w.heap.size + 1, 3, none⟩ = some (.int .i64 ma) := cell_heap (i := 3) ((hb2.block _ (by omega)).trans HBM.out) rfl
  have b4 : w2.cell? ⟨w.heap.size + 1, 4, none⟩ = some (.int .i64 ra) := cell_heap (i := 4) ((hb2.block _ (by omega)).trans HBM.out) rfl
  have b5 : w2.cell? ⟨w.heap.size + 1, 5, none⟩ = some (.int .i64 ev) := cell_heap (i := 5) ((hb2.block _ (by omega)).trans HBM.out) rfl
  have b6 : w2.cell? ⟨w.heap.size + 1, 6, none⟩ = some (.bool ix) := cell_heap (i := 6) ((hb2.block _ (by omega)).trans HBM.out) rfl
  have r0 : w2.cell? ⟨w.heap.size, 0, none⟩ = some (.slice none 0 0) := cell_heap (i := 0) ((hb2.block _ (by omega)).trans HBR.out) rfl
  have r1 : w2.cell? ⟨w.heap.size, 1, none⟩ = some (.slice a1 n1 c1) := cell_heap (i := 1) ((hb2.block _ (by omega)).trans HBR.out) rfl
  have r2 : w2.cell? ⟨w.heap.size, 2, none⟩ = some (.slice a2 n2 c2) := cell_heap (i := 2) ((hb2.block _ (by omega)).trans HBR.out) rfl
  have x0 : w2.cell? ⟨w.heap.size + 1 + 1, 0, none⟩ = some (.slice none 0 0) := cell_heap (i := 0) ((hb2.block _ (by omega)).trans HBX.out) rfl
  have x1 : w2.cell? ⟨w.heap.size + 1 + 1, 1, none⟩ = some (.slice none 0 0) := cell_heap (i := 1) ((hb2.block _ (by omega)).trans HBX.out) rfl
  have x2 : w2.cell? ⟨w.heap.size + 1 + 1, 2, none⟩ = some (.slice none 0 0) := cell_heap (i := 2) ((hb2.block _ (by omega)).trans HBX.out) rfl
  have xf0 : w2.frozen? ⟨w.heap.size + 1 + 1, 0, none⟩ = false := frozen_of_row w2 _ _ _ _ ((hb2.block _ (by omega)).trans HBX.out)
  have xf1 : w2.frozen? ⟨w.heap.size + 1 + 1, 1, none⟩ = false := frozen_of_row w2 _ _ _ _ ((hb2.block _ (by omega)).trans HBX.out)
  have xf2 : w2.frozen? ⟨w.heap.size + 1 + 1, 2, none⟩ = false := frozen_of_row w2 _ _ _ _ ((hb2.block _ (by omega)).trans HBX.out)
  have rf0 : w2.frozen? ⟨w.heap.size, 0, none⟩ = false := frozen_of_row w2 _ _ _ _ ((hb2.block _ (by omega)).trans HBR.out)
  have HB2 := Lib.hid (bup HB1.out hb2)
  have hb2' := hb2
  clear hb2
  have zx : w.heap.size + 1 < w2.heap.size := by omega
  go_wp2_with fail
  refine (r33sec_any _ _ _ _ _ _ _ _).mono ?_
  rw [HOK.out]
  rintro e w3 ⟨rfl, hb3⟩
  have z3 := hb3.size
  rw [World.size_alloc] at z3
  clear b0 b1 b2 b3 b4 b5 b6 r0 r1 r2 x0 x1 x2 xf0 xf1 xf2 rf0
  have e3 : ∀ k, k < w1.heap.size → w3.heap[k]? = w1.heap[k]? := fun k hk => (hb3.block k (by rw [World.size_alloc]; omega)).trans ((heap_alloc_old w2 _ (by omega)).trans (hb2'.block k hk))
  have b0 : w3.cell? ⟨w.heap.size + 1, 0, none⟩ = some (.int .i64 id) := cell_heap (i := 0) ((e3 _ (by omega)).trans HBM.out) rfl
  have b1 : w3.cell? ⟨w.heap.size + 1, 1, none⟩ = some (.int .i64 un) := cell_heap (i := 1) ((e3 _ (by omega)).trans HBM.out) rfl
  have b2 : w3.cell? ⟨w.heap.size + 1, 2, none⟩ = some (.int .i64 is) := cell_heap (i := 2) ((e3 _ (by omega)).trans HBM.out) rfl
  have b3 : w3.cell? ⟨w.heap.size + 1, 3, none⟩ = some (.int .i64 ma) := cell_heap (i := 3) ((e3 _ (by omega)).trans HBM.out) rfl
  have b4 : w3.cell? ⟨w.heap.size + 1, 4, none⟩ = some (.int .i64 ra) := cell_heap (i := 4) ((e3 _ (by omega)).trans HBM.out) rfl
  have b5 : w3.cell? ⟨w.heap.size + 1, 5, none⟩ = some (.int .i64 ev) := cell_heap (i := 5) ((e3 _ (by omega)).trans HBM.out) rfl
  have b6 : w3.cell? ⟨w.heap.size + 1, 6, none⟩ = some (.bool ix) := cell_heap (i := 6) ((e3 _ (by omega)).trans HBM.out) rfl
  have r0 : w3.cell? ⟨w.heap.size, 0, none⟩ = some (.slice none 0 0) := cell_heap (i := 0) ((e3 _ (by omega)).trans HBR.out) rfl
  have r1 : w3.cell? ⟨w.heap.size, 1, none⟩ = some (.slice a1 n1 c1) := cell_heap (i := 1) ((e3 _ (by omega)).trans HBR.out) rfl
  have r2 : w3.cell? ⟨w.heap.size, 2, none⟩ = some (.slice a2 n2 c2) := cell_heap (i := 2) ((e3 _ (by omega)).trans HBR.out) rfl
  have x0 : w3.cell? ⟨w.heap.size + 1 + 1, 0, none⟩ = some (.slice none 0 0) := cell_heap (i := 0) ((e3 _ (by omega)).trans HBX.out) rfl
  have x1 : w3.cell? ⟨w.heap.size + 1 + 1, 1, none⟩ = some (.slice none 0 0) := cell_heap (i := 1) ((e3 _ (by omega)).trans HBX.out) rfl
  have x2 : w3.cell? ⟨w.heap.size + 1 + 1, 2, none⟩ = some (.slice none 0 0) := cell_heap (i := 2) ((e3 _ (by omega)).trans HBX.out) rfl
  have xf0 : w3.frozen? ⟨w.heap.size + 1 + 1, 0, none⟩ = false := frozen_of_row w3 _ _ _ _ ((e3 _ (by omega)).trans HBX.out)
  have xf1 : w3.frozen? ⟨w.heap.size + 1 + 1, 1, none⟩ = false := frozen_of_row w3 _ _ _ _ ((e3 _ (by omega)).trans HBX.out)
  have xf2 : w3.frozen? ⟨w.heap.size + 1 + 1, 2, none⟩ = false := frozen_of_row w3 _ _ _ _ ((e3 _ (by omega)).trans HBX.out)
  have rf0 : w3.frozen? ⟨w.heap.size, 0, none⟩ = false := frozen_of_row w3 _ _ _ _ ((e3 _ (by omega)).trans HBR.out)
  have HB3 := Lib.hid (bup (bal HB2.out _) hb3)
  clear hb3 hb2' zx
  go_wp2
  go_loopw [9] (fun iv wr => ∃ k nq : Nat, k ≤ 0 ∧ iv = .int .i64 k ∧ wr = w3.drewN nq) (fun iv _ => 0 - (intOf iv).toNat)
  case atStart => exact ⟨0, 0, by omega, rfl, rfl⟩
  case round =>
    obtain ⟨k, nq, hk, rfl, rfl⟩ := hrel
    obtain rfl : k = 0 := by omega
    go_wp2
    go_quiet (fail)
    have z3x : w.heap.size + 3 ≤ w3.heap.size := by omega
    go_upto_region 12 with fail
    generalize hW5 : World.drewN (World.drewN w3 _) _ = W5
    have hW5 := hW5.symm
    have hb5 : Below w.heap.size w W5 := by rw [hW5]; exact below_drewZ (below_drewZ HB3.out _) _
    have z5 : W5.heap.size = w3.heap.size := by rw [hW5]; rfl
    have h5b : ∀ k : Nat, W5.heap[k]? = w3.heap[k]? := fun k => by rw [hW5]; rfl
    have hSv : Sl 7 encSec P W5.drew (.slice none 0 0) R.secs := (HR.out.S.below hb5).drewN 1
    obtain ⟨i1, hi, hz0, hz1, hz2⟩ := info_parts infoSec
    obtain ⟨⟨a1', c1', W1, a2', c2', W2, a3', c3', W7, hA1, hA2, hA3, oA, bA, bA2, bA1⟩, ⟨d1', e1', V1, d2', e2', V2, d3', e3', W8, hB1, hB2, hB3, oB, bB, bB2, bB1⟩⟩ := run_three (P := Tryz.prog) encSec_len oneSec W5.drew (Sl.first (q := 0) hSv (Nat.le_refl _)) (Sl.empty hSv rfl 0 (Nat.zero_le _)) ⟨id, un, is, ma, ra, ev, ix⟩ 27 27 26 i1 (.agg #[.int .i64 0, .int .i64 0, .int .i64 0, .int .i64 0, .int .i64 0, .int .i64 0, .bool false]) 56 Tryz.underlying27 hi hz0 hz1 hz2 rfl (by decide) (by omega) (by omega) #[.int .i64 id, .int .i64 un, .int .i64 is, .int .i64 ma, .int .i64 ra, .int .i64 ev, .bool ix] rfl
    have hlen : 0 + 1 + 0 = (R.secs.take 0 ++ (⟨id, un, is, ma, ra, ev, ix⟩ : Sec) :: R.secs.drop 0).length := by
      have := HN0.out
      simp only [List.length_append, List.length_cons, List.length_take, List.length_drop]; omega
    have HFA := Lib.hid (fadd_fin (R := R) hP hlen (bdr hb5) (show w.heap.size + 3 ≤ W5.drew.heap.size by show w.heap.size + 3 ≤ W5.heap.size; omega) bA (HR.out.H.mono (fun b h hl => ⟨h, hl⟩)) (HR.out.M.mono (fun b h hl => ⟨h, hl⟩)) oA)
    have HFB := Lib.hid (fadd_fin (R := R) hP hlen (bdr hb5) (show w.heap.size + 3 ≤ W5.drew.heap.size by show w.heap.size + 3 ≤ W5.heap.size; omega) bB (HR.out.H.mono (fun b h hl => ⟨h, hl⟩)) (HR.out.M.mono (fun b h hl => ⟨h, hl⟩)) oB)
    have HA1 := Lib.hid hA1
    have HA2 := Lib.hid hA2
    have HA3 := Lib.hid hA3
    have hB1' : (Builtin.append_ #[27, 27] 27 #[.slice none 0 0, .slice none 0 0]).run Tryz.prog ((W5.alloc (.cells #[.int .i64 id, .int .i64 un, .int .i64 is, .int .i64 ma, .int .i64 ra, .int .i64 ev, .bool ix] 26 (0, 0))).drew) = .ok (.slice d1' 0 e1') V1 := hB1
    have HBB1 := Lib.hid hB1'
    have HBB2 := Lib.hid hB2
    have HBB3 := Lib.hid hB3
    have zd : W5.drew.heap.size = W5.heap.size := rfl
    have zA1 := bA1.size
    have zA2 := bA2.size
    have zB1 := bB1.size
    have zB2 := bB2.size
    have zA := bA.size
    have zB := bB.size
    have yr : W5.heap[w.heap.size]? = _ := (h5b _).trans ((e3 _ (by omega)).trans HBR.out)
    have ym : W5.heap[w.heap.size + 1]? = _ := (h5b _).trans ((e3 _ (by omega)).trans HBM.out)
    have yx : W5.heap[w.heap.size + 1 + 1]? = _ := (h5b _).trans ((e3 _ (by omega)).trans HBX.out)
    have yr0 : W5.cell? ⟨w.heap.size, 0, none⟩ = some (.slice none 0 0) := cell_heap (i := 0) yr rfl
    have yr1 : W5.cell? ⟨w.heap.size, 1, none⟩ = some (.slice a1 n1 c1) := cell_heap (i := 1) yr rfl
    have yr2 : W5.cell? ⟨w.heap.size, 2, none⟩ = some (.slice a2 n2 c2) := cell_heap (i := 2) yr rfl
    have yrf : W5.frozen? ⟨w.heap.size, 0, none⟩ = false := frozen_of_row W5 _ _ _ _ yr
    have yx0 : W5.cell? ⟨w.heap.size + 1 + 1, 0, none⟩ = some (.slice none 0 0) := cell_heap (i := 0) yx rfl
    have yxf0 : W5.frozen? ⟨w.heap.size + 1 + 1, 0, none⟩ = false := frozen_of_row W5 _ _ _ _ yx
    have yx1 : W5.cell? ⟨w.heap.size + 1 + 1, 1, none⟩ = some (.slice none 0 0) := cell_heap (i := 1) yx rfl
    have yxf1 : W5.frozen? ⟨w.heap.size + 1 + 1, 1, none⟩ = false := frozen_of_row W5 _ _ _ _ yx
    have yx2 : W5.cell? ⟨w.heap.size + 1 + 1, 2, none⟩ = some (.slice none 0 0) := cell_heap (i := 2) yx rfl
    have yxf2 : W5.frozen? ⟨w.heap.size + 1 + 1, 2, none⟩ = false := frozen_of_row W5 _ _ _ _ yx
    have ym0 : W5.cell? ⟨w.heap.size + 1, 0, none⟩ = some (.int .i64 id) := cell_heap (i := 0) ym rfl
    have ym1 : W5.cell? ⟨w.heap.size + 1, 1, none⟩ = some (.int .i64 un) := cell_heap (i := 1) ym rfl
    have ym2 : W5.cell? ⟨w.heap.size + 1, 2, none⟩ = some (.int .i64 is) := cell_heap (i := 2) ym rfl
    have ym3 : W5.cell? ⟨w.heap.size + 1, 3, none⟩ = some (.int .i64 ma) := cell_heap (i := 3) ym rfl
    have ym4 : W5.cell? ⟨w.heap.size + 1, 4, none⟩ = some (.int .i64 ra) := cell_heap (i := 4) ym rfl
    have ym5 : W5.cell? ⟨w.heap.size + 1, 5, none⟩ = some (.int .i64 ev) := cell_heap (i := 5) ym rfl
    have ym6 : W5.cell? ⟨w.heap.size + 1, 6, none⟩ = some (.bool ix) := cell_heap (i := 6) ym rfl
    have yar : W1.heap[w.heap.size]? = _ := (bA1.block _ (by omega)).trans ((h5b _).trans ((e3 _ (by omega)).trans HBR.out))
    have yam : W1.heap[w.heap.size + 1]? = _ := (bA1.block _ (by omega)).trans ((h5b _).trans ((e3 _ (by omega)).trans HBM.out))
    have yax : W1.heap[w.heap.size + 1 + 1]? = _ := (bA1.block _ (by omega)).trans ((h5b _).trans ((e3 _ (by omega)).trans HBX.out))
    have yar0 : W1.cell? ⟨w.heap.size, 0, none⟩ = some (.slice none 0 0) := cell_heap (i := 0) yar rfl
    have yar1 : W1.cell? ⟨w.heap.size, 1, none⟩ = some (.slice a1 n1 c1) := cell_heap (i := 1) yar rfl
    have yar2 : W1.cell? ⟨w.heap.size, 2, none⟩ = some (.slice a2 n2 c2) := cell_heap (i := 2) yar rfl
    have yarf : W1.frozen? ⟨w.heap.size, 0, none⟩ = false := frozen_of_row W1 _ _ _ _ yar
    have yax0 : W1.cell? ⟨w.heap.size + 1 + 1, 0, none⟩ = some (.slice none 0 0) := cell_heap (i := 0) yax rfl
    have yaxf0 : W1.frozen? ⟨w.heap.size + 1 + 1, 0, none⟩ = false := frozen_of_row W1 _ _ _ _ yax
    have yax1 : W1.cell? ⟨w.heap.size + 1 + 1, 1, none⟩ = some (.slice none 0 0) := cell_heap (i := 1) yax rfl
    have yaxf1 : W1.frozen? ⟨w.heap.size + 1 + 1, 1, none⟩ = false := frozen_of_row W1 _ _ _ _ yax
    have yax2 : W1.cell? ⟨w.heap.size + 1 + 1, 2, none⟩ = some (.slice none 0 0) := cell_heap (i := 2) yax rfl
    have yaxf2 : W1.frozen? ⟨w.heap.size + 1 + 1, 2, none⟩ = false := frozen_of_row W1 _ _ _ _ yax
    have yam0 : W1.cell? ⟨w.heap.size + 1, 0, none⟩ = some (.int .i64 id) := cell_heap (i := 0) yam rfl
    have yam1 : W1.cell? ⟨w.heap.size + 1, 1, none⟩ = some (.int .i64 un) := cell_heap (i := 1) yam rfl
    have yam2 : W1.cell? ⟨w.heap.size + 1, 2, none⟩ = some (.int .i64 is) := cell_heap (i := 2) yam rfl
    have yam3 : W1.cell? ⟨w.heap.size + 1, 3, none⟩ = some (.int .i64 ma) := cell_heap (i := 3) yam rfl
    have yam4 : W1.cell? ⟨w.heap.size + 1, 4, none⟩ = some (.int .i64 ra) := cell_heap (i := 4) yam rfl
    have yam5 : W1.cell? ⟨w.heap.size + 1, 5, none⟩ = some (.int .i64 ev) := cell_heap (i := 5) yam rfl
    have yam6 : W1.cell? ⟨w.heap.size + 1, 6, none⟩ = some (.bool ix) := cell_heap (i := 6) yam rfl
    have ycr : W2.heap[w.heap.size]? = _ := (bA2.block _ (by omega)).trans ((h5b _).trans ((e3 _ (by omega)).trans HBR.out))
    have ycm : W2.heap[w.heap.size + 1]? = _ := (bA2.block _ (by omega)).trans ((h5b _).trans ((e3 _ (by omega)).trans HBM.out))
    have ycx : W2.heap[w.heap.size + 1 + 1]? = _ := (bA2.block _ (by omega)).trans ((h5b _).trans ((e3 _ (by omega)).trans HBX.out))
    have ycr0 : W2.cell? ⟨w.heap.size, 0, none⟩ = some (.slice none 0 0) := cell_heap (i := 0) ycr rfl
    have ycr1 : W2.cell? ⟨w.heap.size, 1, none⟩ = some (.slice a1 n1 c1) := cell_heap (i := 1) ycr rfl
    have ycr2 : W2.cell? ⟨w.heap.size, 2, none⟩ = some (.slice a2 n2 c2) := cell_heap (i := 2) ycr rfl
    have ycrf : W2.frozen? ⟨w.heap.size, 0, none⟩ = false := frozen_of_row W2 _ _ _ _ ycr
    have ycx0 : W2.cell? ⟨w.heap.size + 1 + 1, 0, none⟩ = some (.slice none 0 0) := cell_heap (i := 0) ycx rfl
    have ycxf0 : W2.frozen? ⟨w.heap.size + 1 + 1, 0, none⟩ = false := frozen_of_row W2 _ _ _ _ ycx
    have ycx1 : W2.cell? ⟨w.heap.size + 1 + 1, 1, none⟩ = some (.slice none 0 0) := cell_heap (i := 1) ycx rfl
    have ycxf1 : W2.frozen? ⟨w.heap.size + 1 + 1, 1, none⟩ = false := frozen_of_row W2 _ _ _ _ ycx
    have ycx2 : W2.cell? ⟨w.heap.size + 1 + 1, 2, none⟩ = some (.slice none 0 0) := cell_heap (i := 2) ycx rfl
    have ycxf2 : W2.frozen? ⟨w.heap.size + 1 + 1, 2, none⟩ = false := frozen_of_row W2 _ _ _ _ ycx
    have ycm0 : W2.cell? ⟨w.heap.size + 1, 0, none⟩ = some (.int .i64 id) := cell_heap (i := 0) ycm rfl
    have ycm1 : W2.cell? ⟨w.heap.size + 1, 1, none⟩ = some (.int .i64 un) := cell_heap (i := 1) ycm rfl
    have ycm2 : W2.cell? ⟨w.heap.size + 1, 2, none⟩ = some (.int .i64 is) := cell_heap (i := 2) ycm rfl
    have ycm3 : W2.cell? ⟨w.heap.size + 1, 3, none⟩ = some (.int .i64 ma) := cell_heap (i := 3) ycm rfl
    have ycm4 : W2.cell? ⟨w.heap.size + 1, 4, none⟩ = some (.int .i64 ra) := cell_heap (i := 4) ycm rfl
    have ycm5 : W2.cell? ⟨w.heap.size + 1, 5, none⟩ = some (.int .i64 ev) := cell_heap (i := 5) ycm rfl
    have ycm6 : W2.cell? ⟨w.heap.size + 1, 6, none⟩ = some (.bool ix) := cell_heap (i := 6) ycm rfl
    have ybr : V1.heap[w.heap.size]? = _ := (bB1.block _ (by omega)).trans ((h5b _).trans ((e3 _ (by omega)).trans HBR.out))
    have ybm : V1.heap[w.heap.size + 1]? = _ := (bB1.block _ (by omega)).trans ((h5b _).trans ((e3 _ (by omega)).trans HBM.out))
    have ybx : V1.heap[w.heap.size + 1 + 1]? = _ := (bB1.block _ (by omega)).trans ((h5b _).trans ((e3 _ (by omega)).trans HBX.out))
    have ybr0 : V1.cell? ⟨w.heap.size, 0, none⟩ = some (.slice none 0 0) := cell_heap (i := 0) ybr rfl
    have ybr1 : V1.cell? ⟨w.heap.size, 1, none⟩ = some (.slice a1 n1 c1) := cell_heap (i := 1) ybr rfl
    have ybr2 : V1.cell? ⟨w.heap.size, 2, none⟩ = some (.slice a2 n2 c2) := cell_heap (i := 2) ybr rfl
    have ybrf : V1.frozen? ⟨w.heap.size, 0, none⟩ = false := frozen_of_row V1 _ _ _ _ ybr
    have ybx0 : V1.cell? ⟨w.heap.size + 1 + 1, 0, none⟩ = some (.slice none 0 0) := cell_heap (i := 0) ybx rfl
    have ybxf0 : V1.frozen? ⟨w.heap.size + 1 + 1, 0, none⟩ = false := frozen_of_row V1 _ _ _ _ ybx
    have ybx1 : V1.cell? ⟨w.heap.size + 1 + 1, 1, none⟩ = some (.slice none 0 0) := cell_heap (i := 1) ybx rfl
    have ybxf1 : V1.frozen? ⟨w.heap.size + 1 + 1, 1, none⟩ = false := frozen_of_row V1 _ _ _ _ ybx
    have ybx2 : V1.cell? ⟨w.heap.size + 1 + 1, 2, none⟩ = some (.slice none 0 0) := cell_heap (i := 2) ybx rfl
    have ybxf2 : V1.frozen? ⟨w.heap.size + 1 + 1, 2, none⟩ = false := frozen_of_row V1 _ _ _ _ ybx
    have ybm0 : V1.cell? ⟨w.heap.size + 1, 0, none⟩ = some (.int .i64 id) := cell_heap (i := 0) ybm rfl
    have ybm1 : V1.cell? ⟨w.heap.size + 1, 1, none⟩ = some (.int .i64 un) := cell_heap (i := 1) ybm rfl
    have ybm2 : V1.cell? ⟨w.heap.size + 1, 2, none⟩ = some (.int .i64 is) := cell_heap (i := 2) ybm rfl
    have ybm3 : V1.cell? ⟨w.heap.size + 1, 3, none⟩ = some (.int .i64 ma) := cell_heap (i := 3) ybm rfl
    have ybm4 : V1.cell? ⟨w.heap.size + 1, 4, none⟩ = some (.int .i64 ra) := cell_heap (i := 4) ybm rfl
    have ybm5 : V1.cell? ⟨w.heap.size + 1, 5, none⟩ = some (.int .i64 ev) := cell_heap (i := 5) ybm rfl
    have ybm6 : V1.cell? ⟨w.heap.size + 1, 6, none⟩ = some (.bool ix) := cell_heap (i := 6) ybm rfl
    have ydr : V2.heap[w.heap.size]? = _ := (bB2.block _ (by omega)).trans ((h5b _).trans ((e3 _ (by omega)).trans HBR.out))
    have ydm : V2.heap[w.heap.size + 1]? = _ := (bB2.block _ (by omega)).trans ((h5b _).trans ((e3 _ (by omega)).trans HBM.out))
    have ydx : V2.heap[w.heap.size + 1 + 1]? = _ := (bB2.block _ (by omega)).trans ((h5b _).trans ((e3 _ (by omega)).trans HBX.out))
    have ydr0 : V2.cell? ⟨w.heap.size, 0, none⟩ = some (.slice none 0 0) := cell_heap (i := 0) ydr rfl
    have ydr1 : V2.cell? ⟨w.heap.size, 1, none⟩ = some (.slice a1 n1 c1) := cell_heap (i := 1) ydr rfl
    have ydr2 : V2.cell? ⟨w.heap.size, 2, none⟩ = some (.slice a2 n2 c2) := cell_heap (i := 2) ydr rfl
    have ydrf : V2.frozen? ⟨w.heap.size, 0, none⟩ = false := frozen_of_row V2 _ _ _ _ ydr
    have ydx0 : V2.cell? ⟨w.heap.size + 1 + 1, 0, none⟩ = some (.slice none 0 0) := cell_heap (i := 0) ydx rfl
    have ydxf0 : V2.frozen? ⟨w.heap.size + 1 + 1, 0, none⟩ = false := frozen_of_row V2 _ _ _ _ ydx
    have ydx1 : V2.cell? ⟨w.heap.size + 1 + 1, 1, none⟩ = some (.slice none 0 0) := cell_heap (i := 1) ydx rfl
    have ydxf1 : V2.frozen? ⟨w.heap.size + 1 + 1, 1, none⟩ = false := frozen_of_row V2 _ _ _ _ ydx
    have ydx2 : V2.cell? ⟨w.heap.size + 1 + 1, 2, none⟩ = some (.slice none 0 0) := cell_heap (i := 2) ydx rfl
    have ydxf2 : V2.frozen? ⟨w.heap.size + 1 + 1, 2, none⟩ = false := frozen_of_row V2 _ _ _ _ ydx
    have ydm0 : V2.cell? ⟨w.heap.size + 1, 0, none⟩ = some (.int .i64 id) := cell_heap (i := 0) ydm rfl
    have ydm1 : V2.cell? ⟨w.heap.size + 1, 1, none⟩ = some (.int .i64 un) := cell_heap (i := 1) ydm rfl
    have ydm2 : V2.cell? ⟨w.heap.size + 1, 2, none⟩ = some (.int .i64 is) := cell_heap (i := 2) ydm rfl
    have ydm3 : V2.cell? ⟨w.heap.size + 1, 3, none⟩ = some (.int .i64 ma) := cell_heap (i := 3) ydm rfl
    have ydm4 : V2.cell? ⟨w.heap.size + 1, 4, none⟩ = some (.int .i64 ra) := cell_heap (i := 4) ydm rfl
    have ydm5 : V2.cell? ⟨w.heap.size + 1, 5, none⟩ = some (.int .i64 ev) := cell_heap (i := 5) ydm rfl
    have ydm6 : V2.cell? ⟨w.heap.size + 1, 6, none⟩ = some (.bool ix) := cell_heap (i := 6) ydm rfl
    have zar : W7.heap[w.heap.size]? = _ := (bA.block _ (by omega)).trans ((h5b _).trans ((e3 _ (by omega)).trans HBR.out))
    have zax : W7.heap[w.heap.size + 1 + 1]? = _ := (bA.block _ (by omega)).trans ((h5b _).trans ((e3 _ (by omega)).trans HBX.out))
    have zar0 : W7.cell? ⟨w.heap.size, 0, none⟩ = some (.slice none 0 0) := cell_heap (i := 0) zar rfl
    have zar1 : W7.cell? ⟨w.heap.size, 1, none⟩ = some (.slice a1 n1 c1) := cell_heap (i := 1) zar rfl
    have zar2 : W7.cell? ⟨w.heap.size, 2, none⟩ = some (.slice a2 n2 c2) := cell_heap (i := 2) zar rfl
    have zarf : W7.frozen? ⟨w.heap.size, 0, none⟩ = false := frozen_of_row W7 _ _ _ _ zar
    have zax0 : W7.cell? ⟨w.heap.size + 1 + 1, 0, none⟩ = some (.slice none 0 0) := cell_heap (i := 0) zax rfl
    have zaxf0 : W7.frozen? ⟨w.heap.size + 1 + 1, 0, none⟩ = false := frozen_of_row W7 _ _ _ _ zax
    have zax1 : W7.cell? ⟨w.heap.size + 1 + 1, 1, none⟩ = some (.slice none 0 0) := cell_heap (i := 1) zax rfl
    have zaxf1 : W7.frozen? ⟨w.heap.size + 1 + 1, 1, none⟩ = false := frozen_of_row W7 _ _ _ _ zax
    have zax2 : W7.cell? ⟨w.heap.size + 1 + 1, 2, none⟩ = some (.slice none 0 0) := cell_heap (i := 2) zax rfl
    have zaxf2 : W7.frozen? ⟨w.heap.size + 1 + 1, 2, none⟩ = false := frozen_of_row W7 _ _ _ _ zax
    have zbr : W8.heap[w.heap.size]? = _ := (bB.block _ (by omega)).trans ((h5b _).trans ((e3 _ (by omega)).trans HBR.out))
    have zbx : W8.heap[w.heap.size + 1 + 1]? = _ := (bB.block _ (by omega)).trans ((h5b _).trans ((e3 _ (by omega)).trans HBX.out))
    have zbr0 : W8.cell? ⟨w.heap.size, 0, none⟩ = some (.slice none 0 0) := cell_heap (i := 0) zbr rfl
    have zbr1 : W8.cell? ⟨w.heap.size, 1, none⟩ = some (.slice a1 n1 c1) := cell_heap (i := 1) zbr rfl
    have zbr2 : W8.cell? ⟨w.heap.size, 2, none⟩ = some (.slice a2 n2 c2) := cell_heap (i := 2) zbr rfl
    have zbrf : W8.frozen? ⟨w.heap.size, 0, none⟩ = false := frozen_of_row W8 _ _ _ _ zbr
    have zbx0 : W8.cell? ⟨w.heap.size + 1 + 1, 0, none⟩ = some (.slice none 0 0) := cell_heap (i := 0) zbx rfl
    have zbxf0 : W8.frozen? ⟨w.heap.size + 1 + 1, 0, none⟩ = false := frozen_of_row W8 _ _ _ _ zbx
    have zbx1 : W8.cell? ⟨w.heap.size + 1 + 1, 1, none⟩ = some (.slice none 0 0) := cell_heap (i := 1) zbx rfl
    have zbxf1 : W8.frozen? ⟨w.heap.size + 1 + 1, 1, none⟩ = false := frozen_of_row W8 _ _ _ _ zbx
    have zbx2 : W8.cell? ⟨w.heap.size + 1 + 1, 2, none⟩ = some (.slice none 0 0) := cell_heap (i := 2) zbx rfl
    have zbxf2 : W8.frozen? ⟨w.heap.size + 1 + 1, 2, none⟩ = false := frozen_of_row W8 _ _ _ _ zbx
    have yk0 : (W5.alloc (.cells #[.int .i64 id, .int .i64 un, .int .i64 is, .int .i64 ma, .int .i64 ra, .int .i64 ev, .bool ix] 26 (0, 0))).cell? ⟨w.heap.size, 0, none⟩ = some (.slice none 0 0) := keepA (w := W5) yr0
    have yl0 : (W1.alloc (.cells #[.int .i64 id, .int .i64 un, .int .i64 is, .int .i64 ma, .int .i64 ra, .int .i64 ev, .bool ix] 26 (0, 0))).cell? ⟨w.heap.size, 0, none⟩ = some (.slice none 0 0) := keepA (w := W1) yar0
    clear yr ym yx yar yam yax ycr ycm ycx ybr ybm ybx ydr ydm ydx zar zax zbr zbx hA1 hA2 hA3 hB1 hB1' hB2 hB3 oA oB bA bA1 bA2 bB bB1 bB2 hSv e3
    clear hW5 hlen h5b
    clear b0 b1 b2 b3 b4 b5 b6 r0 r1 r2 x0 x1 x2 xf0 xf1 xf2 rf0
    rename_i K hK
    go_region_law (first | refine step_append_runZ rfl (.const (.slice none 0 0)) (.tmp 56) 27 27 rfl (.slice none 0 0) (.slice none 0 0) (by simp [Act.eval, Act.put]) (by simp [Act.eval, Act.put]) HA1.out ?_ | refine step_append_runZ rfl (.const (.slice none 0 0)) (.tmp 56) 27 27 rfl (.slice none 0 0) (.slice none 0 0) (by simp [Act.eval, Act.put]) (by simp [Act.eval, Act.put]) HBB1.out ?_ | refine step_append_runZ rfl (.tmp 57) (.tmp 59) 27 27 rfl (.slice a1' 0 c1') (.slice (some ⟨W1.heap.size, 0, none⟩) 1 1) (by simp [Act.eval, Act.put]) (by simp [Act.eval, Act.put]) HA2.out ?_ | refine step_append_runZ rfl (.tmp 57) (.tmp 59) 27 27 rfl (.slice d1' 0 e1') (.slice (some ⟨W5.drew.heap.size, 0, none⟩) 1 1) (by simp [Act.eval, Act.put]) (by simp [Act.eval, Act.put]) HBB2.out ?_ | refine step_append_runZ rfl (.tmp 60) (.tmp 64) 27 27 rfl (.slice a2' (0 + 1) c2') (.slice none 0 0) (by simp [Act.eval, Act.put]) (by simp [Act.eval, Act.put]) HA3.out ?_ | refine step_append_runZ rfl (.tmp 60) (.tmp 64) 27 27 rfl (.slice d2' (0 + 1) e2') (.slice none 0 0) (by simp [Act.eval, Act.put]) (by simp [Act.eval, Act.put]) HBB3.out ?_)
    all_goals (refine hK _ _ ?_; go_wp2; first | (refine bodyPost_ret (v := .tuple #[.agg #[.slice a3' (0 + 1 + 0) c3', .slice a1 n1 c1, .slice a2 n2 c2], .int .i64 0]) (by simp [results, Tryz.results122, go_sem, zax0, zax1, zax2]) rfl ?_; rw [← HQ0.out]; exact HFA.out) | (refine bodyPost_ret (v := .tuple #[.agg #[.slice d3' (0 + 1 + 0) e3', .slice a1 n1 c1, .slice a2 n2 c2], .int .i64 0]) (by simp [results, Tryz.results122, go_sem, zbx0, zbx1, zbx2]) rfl ?_; rw [← HQ0.out]; exact HFB.out))
set_option maxHeartbeats 16000000 in
set_option maxRecDepth 100000 in
theorem fadd_go_full (P : Nat → Prop) (vs vh vm : Value) (R : Reg) (id un is ma ra ev : Int) (ix : Bool) (w : World) (hr : RgIn P w vs vh vm R) (hS : R.secs.length ≤ 1000000) (hH : R.hs.length ≤ 1000000) (hM : R.ms.length ≤ 1000000) (hP : ∀ b, w.heap.size ≤ b → P b) (hx : chkE R = 0) (hf : findS R.secs id = none) (hso : secB id un is ma ra ev = true) (hl : R.secs.length ≠ 20) (hnz : 0 < R.secs.length) (hcq : ∃ a n, vs = .slice a n (posS R.secs id)) :
    Calls Tryz.prog 122 #[.agg #[vs, vh, vm], .agg #[.int .i64 id, .int .i64 un, .int .i64 is, .int .i64 ma, .int .i64 ra, .int .i64 ev, .bool ix]] w (GaveR P (raR R ⟨id, un, is, ma, ra, ev, ix⟩) (raE R ⟨id, un, is, ma, ra, ev, ix⟩) w) := by
  obtain ⟨a0, n0, c0, rfl, hn0, hnc0, hcm0⟩ := hr.S.shape
  obtain ⟨a1, n1, c1, rfl, -, -, -⟩ := hr.H.shape
  obtain ⟨a2, n2, c2, rfl, -, -, -⟩ := hr.M.shape
  have HC := Lib.hid (fun W hW => fcheck_any P _ _ _ R W (hr.below (w' := W) hW) hS hH hM)
  have HR := Lib.hid hr
  have HN0 := Lib.hid hn0
  obtain ⟨E0, hE0⟩ : ∃ E, chkE R = E := ⟨_, rfl⟩
  obtain ⟨E, hE⟩ : ∃ E, raE R ⟨id, un, is, ma, ra, ev, ix⟩ = E := ⟨_, rfl⟩
  obtain ⟨Q, hQ⟩ : ∃ Q, raR R ⟨id, un, is, ma, ra, ev, ix⟩ = Q := ⟨_, rfl⟩
  have hE2 := hE
  have hQ2 := hQ
  unfold raE at hE2
  unfold raR at hQ2
  rw [hE0] at HC hE2
  rw [hE] at hQ2
  rw [hE, hQ]
  have HE := Lib.hid hE2
  have HQ := Lib.hid hQ2
  have HE0 := Lib.hid hE0
  clear hr hE hQ hE2 hQ2 hE0 hn0
  have h0 : E0 = 0 := by rw [← HE0.out]; exact hx
  subst h0
  clear hx
  have hok := chkE_iff.1 HE0.out
  have his := isS_find (id := id) hok.secs
  have hi : isS R.secs id = false := by rw [his, hf]; rfl
  have hf1 : E = 0 := by rw [← HE.out, if_pos rfl, if_pos ⟨hso, hi⟩, if_neg hl]
  subst hf1
  have hq0 : (⟨R.secs.take (posS R.secs id) ++ (⟨id, un, is, ma, ra, ev, ix⟩ : Sec) :: R.secs.drop (posS R.secs id), R.hs, R.ms⟩ : Reg) = Q := by rw [← HQ.out, if_pos rfl]
  have HQ0 := Lib.hid hq0
  have HOK := Lib.hid hso
  have h20 : ((n0 : Int) == 20) = false := by have := HN0.out; simp; omega
  have hn20 : n0 ≤ 20 := by have := hok.ls; have := HN0.out; omega
  have hqn := posS_le R.secs id
  rw [HN0.out] at hqn
  have hpos : ∀ {m : Nat} {x : Sec}, R.secs[m]? = some x → decide (x.id < id) = decide (m < posS R.secs id) := fun hx => lt_posS hok.secs hx
  obtain ⟨q, hq⟩ : ∃ q, posS R.secs id = q := ⟨_, rfl⟩
  rw [hq] at hcq
  rw [hq] at hq0 HQ0 hqn hpos
  have HPOS := Lib.hid (fun (m : Nat) (x : Sec) (hx : R.secs[m]? = some x) => hpos hx)
  clear hso hq0 hl hpos hq
  obtain ⟨b, off, xx, rfl, hpb, hbb, -⟩ := HR.out.S.at_ (k := 0) (by have := HN0.out; omega)
  have hc0 : ¬ c0 = 0 := by have := HN0.out; omega
  obtain ⟨aa, nn, hcq⟩ := hcq
  obtain rfl : c0 = q := by cases hcq; rfl
  obtain rfl : n0 = c0 := by omega
  have HFD := Lib.hid (fun W hW => ffind_no P _ _ _ R id W (HR.out.below (w' := W) hW) hS hf)
  clear hf hi his hok
  go_enter Tryz.func122, Tryz.ntmps122
  go_wp2_with fail
  refine (HC.out _ (bal (bal (bal brefl _) _) _)).mono ?_
  rintro e w1 ⟨rfl, hb1⟩
  have HB1 := Lib.hid (bup (bal (bal (bal brefl _) _) _) hb1)
  have zz := hb1.size
  simp only [World.size_alloc] at zz
  have HBM := Lib.hid (show w1.heap[w.heap.size + 1]? = some (.cells #[.int .i64 id, .int .i64 un, .int .i64 is, .int .i64 ma, .int .i64 ra, .int .i64 ev, .bool ix] 26 (0, 0)) from (hb1.block _ (by simp)).trans ((heap_alloc_old _ _ (by simp)).trans (heap_at (by simp))))
  have HBR := Lib.hid (show w1.heap[w.heap.size]? = some (.cells #[.slice (some ⟨b, off, none⟩) n0 n0, .slice a1 n1 c1, .slice a2 n2 c2] 31 (0, 0)) from (hb1.block _ (by simp; omega)).trans ((heap_alloc_old _ _ (by simp; omega)).trans ((heap_alloc_old _ _ (by simp)).trans (heap_alloc_new w _))))
  have HBX := Lib.hid (show w1.heap[w.heap.size + 1 + 1]? = some (.cells #[.slice none 0 0, .slice none 0 0, .slice none 0 0] 31 (0, 0)) from (hb1.block _ (by simp)).trans (heap_at (by simp)))
  clear hb1
  have b0 : w1.cell? ⟨w.heap.size + 1, 0, none⟩ = some (.int .i64 id) := cell_heap (i := 0) (HBM.out) rfl
  have b1 : w1.cell? ⟨w.heap.size + 1, 1, none⟩ = some (.int .i64 un) := cell_heap (i := 1) (HBM.out) rfl
  have b2 : w1.cell? ⟨w.heap.size + 1, 2, none⟩ = some (.int .i64 is) := cell_heap (i := 2) (HBM.out) rfl
  have b3 : w1.cell? ⟨w.heap.size + 1, 3, none⟩ = some (.int .i64 ma) := cell_heap (i := 3) (HBM.out) rfl
  have b4 : w1.cell? ⟨w.heap.size + 1, 4, none⟩ = some (.int .i64 ra) := cell_heap (i := 4) (HBM.out) rfl
  have b5 : w1.cell? ⟨w.heap.size + 1, 5, none⟩ = some (.int .i64 ev) := cell_heap (i := 5) (HBM.out) rfl
  have b6 : w1.cell? ⟨w.heap.size + 1, 6, none⟩ = some (.bool ix) := cell_heap (i := 6) (HBM.out) rfl
  have r0 : w1.cell? ⟨w.heap.size, 0, none⟩ = some (.slice (some ⟨b, off, none⟩) n0 n0) := cell_heap (i := 0) (HBR.out) rfl
  have r1 : w1.cell? ⟨w.heap.size, 1, none⟩ = some (.slice a1 n1 c1) := cell_heap (i := 1) (HBR.out) rfl
  have r2 : w1.cell? ⟨w.heap.size, 2, none⟩ = some (.slice a2 n2 c2) := cell_heap (i := 2) (HBR.out) rfl
  have x0 : w1.cell? ⟨w.heap.size + 1 + 1, 0, none⟩ = some (.slice none 0 0) := cell_heap (i := 0) (HBX.out) rfl
  have x1 : w1.cell? ⟨w.heap.size + 1 + 1, 1, none⟩ = some (.slice none 0 0) := cell_heap (i := 1) (HBX.out) rfl
  have x2 : w1.cell? ⟨w.heap.size + 1 + 1, 2, none⟩ = some (.slice none 0 0) := cell_heap (i := 2) (HBX.out) rfl
  have xf0 : w1.frozen? ⟨w.heap.size + 1 + 1, 0, none⟩ = false := frozen_of_row w1 _ _ _ _ (HBX.out)
  have xf1 : w1.frozen? ⟨w.heap.size + 1 + 1, 1, none⟩ = false := frozen_of_row w1 _ _ _ _ (HBX.out)
  have xf2 : w1.frozen? ⟨w.heap.size + 1 + 1, 2, none⟩ = false := frozen_of_row w1 _ _ _ _ (HBX.out)
  have rf0 : w1.frozen? ⟨w.heap.size, 0, none⟩ = false := frozen_of_row w1 _ _ _ _ (HBR.out)
  go_wp2_with fail
  refine (HFD.out _ HB1.out).mono ?_
  rintro e w2 ⟨rfl, hb2⟩
  have z2 := hb2.size
  clear b0 b1 b2 b3 b4 b5 b6 r0 r1 r2 x0 x1 x2 xf0 xf1 xf2 rf0
  have b0 : w2.cell? ⟨w.heap.size + 1, 0, none⟩ = some (.int .i64 id) := cell_heap (i := 0) ((hb2.block _ (by omega)).trans HBM.out) rfl
  have b1 : w2.cell? ⟨w.heap.size + 1, 1, none⟩ = some (.int .i64 un) := cell_heap (i := 1) ((hb2.block _ (by omega)).trans HBM.out) rfl
  have b2 : w2.cell? ⟨w.heap.size + 1, 2, none⟩ = some (.int .i64 is) := cell_heap (i := 2) ((hb2.block _ (by omega)).trans HBM.out) rfl
  have b3 : w2.cell? ⟨w.heap.size + 1, 3, none⟩ = some (.int .i64 ma) := cell_heap (i := 3) ((hb2.block _ (by omega)).trans HBM.out) rfl
  have b4 : w2.cell? ⟨w.heap.size + 1, 4, none⟩ = some (.int .i64 ra) := cell_heap (i := 4) ((hb2.block _ (by omega)).trans HBM.out) rfl
  have b5 : w2.cell? ⟨w.heap.size + 1, 5, none⟩ = some (.int .i64 ev) := cell_heap (i := 5) ((hb2.block _ (by omega)).trans HBM.out) rfl
  have b6 : w2.cell? ⟨w.heap.size + 1, 6, none⟩ = some (.bool ix) := cell_heap (i := 6) ((hb2.block _ (by omega)).trans HBM.out) rfl
  have r0 : w2.cell? ⟨w.heap.size, 0, none⟩ = some (.slice (some ⟨b, off, none⟩) n0 n0) := cell_heap (i := 0) ((hb2.block _ (by omega)).trans HBR.out) rfl
  have r1 : w2.cell? ⟨w.heap.size, 1, none⟩ = some (.slice a1 n1 c1) := cell_heap (i := 1) ((hb2.block _ (by omega)).trans HBR.out) rfl
  have r2 : w2.cell? ⟨w.heap.size, 2, none⟩ = some (.slice a2 n2 c2) := cell_heap (i := 2) ((hb2.block _ (by omega)).trans HBR.out) rfl
  have x0 : w2.cell? ⟨w.heap.size + 1 + 1, 0, none⟩ = some (.slice none 0 0) := cell_heap (i := 0) ((hb2.block _ (by omega)).trans HBX.out) rfl
  have x1 : w2.cell? ⟨w.heap.size + 1 + 1, 1, none⟩ = some (.slice none 0 0) := cell_heap (i := 1) ((hb2.block _ (by omega)).trans HBX.out) rfl
  have x2 : w2.cell? ⟨w.heap.size + 1 + 1, 2, none⟩ = some (.slice none 0 0) := cell_heap (i := 2) ((hb2.block _ (by omega)).trans HBX.out) rfl
  have xf0 : w2.frozen? ⟨w.heap.size + 1 + 1, 0, none⟩ = false := frozen_of_row w2 _ _ _ _ ((hb2.block _ (by omega)).trans HBX.out)
  have xf1 : w2.frozen? ⟨w.heap.size + 1 + 1, 1, none⟩ = false := frozen_of_row w2 _ _ _ _ ((hb2.block _ (by omega)).trans HBX.out)
  have xf2 : w2.frozen? ⟨w.heap.size + 1 + 1, 2, none⟩ = false := frozen_of_row w2 _ _ _ _ ((hb2.block _ (by omega)).trans HBX.out)
  have rf0 : w2.frozen? ⟨w.heap.size, 0, none⟩ = false := frozen_of_row w2 _ _ _ _ ((hb2.block _ (by omega)).trans HBR.out)
  have HB2 := Lib.hid (bup HB1.out hb2)
  have hb2' := hb2
  clear hb2
  have zx : w.heap.size + 1 < w2.heap.size := by omega
  go_wp2_with fail
  refine (r33sec_any _ _ _ _ _ _ _ _).mono ?_
  rw [HOK.out]
  rintro e w3 ⟨rfl, hb3⟩
  have z3 := hb3.size
  rw [World.size_alloc] at z3
  clear b0 b1 b2 b3 b4 b5 b6 r0 r1 r2 x0 x1 x2 xf0 xf1 xf2 rf0
  have e3 : ∀ k, k < w1.heap.size → w3.heap[k]? = w1.heap[k]? := fun k hk => (hb3.block k (by rw [World.size_alloc]; omega)).trans ((heap_alloc_old w2 _ (by omega)).trans (hb2'.block k hk))
  have b0 : w3.cell? ⟨w.heap.size + 1, 0, none⟩ = some (.int .i64 id) := cell_heap (i := 0) ((e3 _ (by omega)).trans HBM.out) rfl
  have b1 : w3.cell? ⟨w.heap.size + 1, 1, none⟩ = some (.int .i64 un) := cell_heap (i := 1) ((e3 _ (by omega)).trans HBM.out) rfl
  have b2 : w3.cell? ⟨w.heap.size + 1, 2, none⟩ = some (.int .i64 is) := cell_heap (i := 2) ((e3 _ (by omega)).trans HBM.out) rfl
  have b3 : w3.cell? ⟨w.heap.size + 1, 3, none⟩ = some (.int .i64 ma) := cell_heap (i := 3) ((e3 _ (by omega)).trans HBM.out) rfl
  have b4 : w3.cell? ⟨w.heap.size + 1, 4, none⟩ = some (.int .i64 ra) := cell_heap (i := 4) ((e3 _ (by omega)).trans HBM.out) rfl
  have b5 : w3.cell? ⟨w.heap.size + 1, 5, none⟩ = some (.int .i64 ev) := cell_heap (i := 5) ((e3 _ (by omega)).trans HBM.out) rfl
  have b6 : w3.cell? ⟨w.heap.size + 1, 6, none⟩ = some (.bool ix) := cell_heap (i := 6) ((e3 _ (by omega)).trans HBM.out) rfl
  have r0 : w3.cell? ⟨w.heap.size, 0, none⟩ = some (.slice (some ⟨b, off, none⟩) n0 n0) := cell_heap (i := 0) ((e3 _ (by omega)).trans HBR.out) rfl
  have r1 : w3.cell? ⟨w.heap.size, 1, none⟩ = some (.slice a1 n1 c1) := cell_heap (i := 1) ((e3 _ (by omega)).trans HBR.out) rfl
  have r2 : w3.cell? ⟨w.heap.size, 2, none⟩ = some (.slice a2 n2 c2) := cell_heap (i := 2) ((e3 _ (by omega)).trans HBR.out) rfl
  have x0 : w3.cell? ⟨w.heap.size + 1 + 1, 0, none⟩ = some (.slice none 0 0) := cell_heap (i := 0) ((e3 _ (by omega)).trans HBX.out) rfl
  have x1 : w3.cell? ⟨w.heap.size + 1 + 1, 1, none⟩ = some (.slice none 0 0) := cell_heap (i := 1) ((e3 _ (by omega)).trans HBX.out) rfl
  have x2 : w3.cell? ⟨w.heap.size + 1 + 1, 2, none⟩ = some (.slice none 0 0) := cell_heap (i := 2) ((e3 _ (by omega)).trans HBX.out) rfl
  have xf0 : w3.frozen? ⟨w.heap.size + 1 + 1, 0, none⟩ = false := frozen_of_row w3 _ _ _ _ ((e3 _ (by omega)).trans HBX.out)
  have xf1 : w3.frozen? ⟨w.heap.size + 1 + 1, 1, none⟩ = false := frozen_of_row w3 _ _ _ _ ((e3 _ (by omega)).trans HBX.out)
  have xf2 : w3.frozen? ⟨w.heap.size + 1 + 1, 2, none⟩ = false := frozen_of_row w3 _ _ _ _ ((e3 _ (by omega)).trans HBX.out)
  have rf0 : w3.frozen? ⟨w.heap.size, 0, none⟩ = false := frozen_of_row w3 _ _ _ _ ((e3 _ (by omega)).trans HBR.out)
  have HB3 := Lib.hid (bup (bal HB2.out _) hb3)
  clear hb3 hb2' zx
  go_wp2
  go_loopw [9] (fun iv wr => ∃ k nq : Nat, k ≤ n0 ∧ iv = .int .i64 k ∧ wr = w3.drewN nq) (fun iv _ => n0 - (intOf iv).toNat)
  case atStart => exact ⟨0, 0, by omega, rfl, rfl⟩
  case round =>
    obtain ⟨k, nq, hk, rfl, rfl⟩ := hrel
    by_cases hlt : k < n0
    · obtain ⟨b', off', sid, sun, sis, sma, sra, sev, six, hbo, -, hb', hL, k0, k1, k2, k3, k4, k5, k6⟩ := (HR.out.below HB3.out).S.sec hlt
      cases hbo
      have hp := HPOS.out _ _ hL
      simp only at hp
      clear hL
      have hlt' : decide (k < n0) = true := decide_eq_true hlt
      by_cases hkq : k < n0
      · rw [decide_eq_true hkq] at hp
        go_wp2
        go_quiet (fail)
        go_wp2
        go_roundw
        case rel => exact ⟨k + 1, _, by omega, by go_num, rfl⟩
        case measure => simp [intOf]; omega
      · omega
    · obtain rfl : k = n0 := by omega
      have hlt' : decide (k < k) = false := decide_eq_false hlt
      go_wp2
      go_quiet (fail)
      have z3x : w.heap.size + 3 ≤ w3.heap.size := by omega
      go_upto_region 12 with fail
      generalize hW5 : World.drewN (World.drewN w3 _) _ = W5
      have hW5 := hW5.symm
      have hb5 : Below w.heap.size w W5 := by rw [hW5]; exact below_drewZ (below_drewZ HB3.out _) _
      have z5 : W5.heap.size = w3.heap.size := by rw [hW5]; rfl
      have h5b : ∀ k : Nat, W5.heap[k]? = w3.heap[k]? := fun k => by rw [hW5]; rfl
      have hSv : Sl 7 encSec P W5.drew (.slice (some ⟨b, off, none⟩) k k) R.secs := (HR.out.S.below hb5).drewN 1
      obtain ⟨i1, hi, hz0, hz1, hz2⟩ := info_parts infoSec
      obtain ⟨⟨a1', c1', W1, a2', c2', W2, a3', c3', W7, hA1, hA2, hA3, oA, bA, bA2, bA1⟩, ⟨d1', e1', V1, d2', e2', V2, d3', e3', W8, hB1, hB2, hB3, oB, bB, bB2, bB1⟩⟩ := run_three (P := Tryz.prog) encSec_len oneSec W5.drew (Sl.first hSv (Nat.le_refl _)) (Sl.empty hSv rfl 0 (Nat.zero_le _)) ⟨id, un, is, ma, ra, ev, ix⟩ 27 27 26 i1 (.agg #[.int .i64 0, .int .i64 0, .int .i64 0, .int .i64 0, .int .i64 0, .int .i64 0, .bool false]) 56 Tryz.underlying27 hi hz0 hz1 hz2 rfl (by decide) (by omega) (by omega) #[.int .i64 id, .int .i64 un, .int .i64 is, .int .i64 ma, .int .i64 ra, .int .i64 ev, .bool ix] rfl
      have hlen : k + 1 + 0 = (R.secs.take k ++ (⟨id, un, is, ma, ra, ev, ix⟩ : Sec) :: R.secs.drop k).length := by
        have := HN0.out
        simp only [List.length_append, List.length_cons, List.length_take, List.length_drop]; omega
      have HFA := Lib.hid (fadd_fin (R := R) hP hlen (bdr hb5) (show w.heap.size + 3 ≤ W5.drew.heap.size by show w.heap.size + 3 ≤ W5.heap.size; omega) bA (HR.out.H.mono (fun b h hl => ⟨h, hl⟩)) (HR.out.M.mono (fun b h hl => ⟨h, hl⟩)) oA)
      have HFB := Lib.hid (fadd_fin (R := R) hP hlen (bdr hb5) (show w.heap.size + 3 ≤ W5.drew.heap.size by show w.heap.size + 3 ≤ W5.heap.size; omega) bB (HR.out.H.mono (fun b h hl => ⟨h, hl⟩)) (HR.out.M.mono (fun b h hl => ⟨h, hl⟩)) oB)
      have HA1 := Lib.hid hA1
      have HA2 := Lib.hid hA2
      have HA3 := Lib.hid hA3
      have hB1' : (Builtin.append_ #[27, 27] 27 #[.slice none 0 0, .slice (some ⟨b, off, none⟩) k k]).run Tryz.prog ((W5.alloc (.cells #[.int .i64 id, .int .i64 un, .int .i64 is, .int .i64 ma, .int .i64 ra, .int .i64 ev, .bool ix] 26 (0, 0))).drew) = .ok (.slice d1' k e1') V1 := hB1
      have HBB1 := Lib.hid hB1'
      have HBB2 := Lib.hid hB2
      have HBB3 := Lib.hid hB3
      have zd : W5.drew.heap.size = W5.heap.size := rfl
      have zA1 := bA1.size
      have zA2 := bA2.size
      have zB1 := bB1.size
      have zB2 := bB2.size
      have zA := bA.size
      have zB := bB.size
      have yr : W5.heap[w.heap.size]? = _ := (h5b _).trans ((e3 _ (by omega)).trans HBR.out)
      have ym : W5.heap[w.heap.size + 1]? = _ := (h5b _).trans ((e3 _ (by omega)).trans HBM.out)
      have yx : W5.heap[w.heap.size + 1 + 1]? = _ := (h5b _).trans ((e3 _ (by omega)).trans HBX.out)
      have yr0 : W5.cell? ⟨w.heap.size, 0, none⟩ = some (.slice (some ⟨b, off, none⟩) k k) := cell_heap (i := 0) yr rfl
      have yr1 : W5.cell? ⟨w.heap.size, 1, none⟩ = some (.slice a1 n1 c1) := cell_heap (i := 1) yr rfl
      have yr2 : W5.cell? ⟨w.heap.size, 2, none⟩ = some (.slice a2 n2 c2) := cell_heap (i := 2) yr rfl
      have yrf : W5.frozen? ⟨w.heap.size, 0, none⟩ = false := frozen_of_row W5 _ _ _ _ yr
      have yx0 : W5.cell? ⟨w.heap.size + 1 + 1, 0, none⟩ = some (.slice none 0 0) := cell_heap (i := 0) yx rfl
      have yxf0 : W5.frozen? ⟨w.heap.size + 1 + 1, 0, none⟩ = false := frozen_of_row W5 _ _ _ _ yx
      have yx1 : W5.cell? ⟨w.heap.size + 1 + 1, 1, none⟩ = some (.slice none 0 0) := cell_heap (i := 1) yx rfl
      have yxf1 : W5.frozen? ⟨w.heap.size + 1 + 1, 1, none⟩ = false := frozen_of_row W5 _ _ _ _ yx
      have yx2 : W5.cell? ⟨w.heap.size + 1 + 1, 2, none⟩ = some (.slice none 0 0) := cell_heap (i := 2) yx rfl
      have yxf2 : W5.frozen? ⟨w.heap.size + 1 + 1, 2, none⟩ = false := frozen_of_row W5 _ _ _ _ yx
      have ym0 : W5.cell? ⟨w.heap.size + 1, 0, none⟩ = some (.int .i64 id) := cell_heap (i := 0) ym rfl
      have ym1 : W5.cell? ⟨w.heap.size + 1, 1, none⟩ = some (.int .i64 un) := cell_heap (i := 1) ym rfl
      have ym2 : W5.cell? ⟨w.heap.size + 1, 2, none⟩ = some (.int .i64 is) := cell_heap (i := 2) ym rfl
      have ym3 : W5.cell? ⟨w.heap.size + 1, 3, none⟩ = some (.int .i64 ma) := cell_heap (i := 3) ym rfl
      have ym4 : W5.cell? ⟨w.heap.size + 1, 4, none⟩ = some (.int .i64 ra) := cell_heap (i := 4) ym rfl
      have ym5 : W5.cell? ⟨w.heap.size + 1, 5, none⟩ = some (.int .i64 ev) := cell_heap (i := 5) ym rfl
      have ym6 : W5.cell? ⟨w.heap.size + 1, 6, none⟩ = some (.bool ix) := cell_heap (i := 6) ym rfl
      have yar : W1.heap[w.heap.size]? = _ := (bA1.block _ (by omega)).trans ((h5b _).trans ((e3 _ (by omega)).trans HBR.out))
      have yam : W1.heap[w.heap.size + 1]? = _ := (bA1.block _ (by omega)).trans ((h5b _).trans ((e3 _ (by omega)).trans HBM.out))
      have yax : W1.heap[w.heap.size + 1 + 1]? = _ := (bA1.block _ (by omega)).trans ((h5b _).trans ((e3 _ (by omega)).trans HBX.out))
      have yar0 : W1.cell? ⟨w.heap.size, 0, none⟩ = some (.slice (some ⟨b, off, none⟩) k k) := cell_heap (i := 0) yar rfl
      have yar1 : W1.cell? ⟨w.heap.size, 1, none⟩ = some (.slice a1 n1 c1) := cell_heap (i := 1) yar rfl
      have yar2 : W1.cell? ⟨w.heap.size, 2, none⟩ = some (.slice a2 n2 c2) := cell_heap (i := 2) yar rfl
      have yarf : W1.frozen? ⟨w.heap.size, 0, none⟩ = false := frozen_of_row W1 _ _ _ _ yar
      have yax0 : W1.cell? ⟨w.heap.size + 1 + 1, 0, none⟩ = some (.slice none 0 0) := cell_heap (i := 0) yax rfl
      have yaxf0 : W1.frozen? ⟨w.heap.size + 1 + 1, 0, none⟩ = false := frozen_of_row W1 _ _ _ _ yax
      have yax1 : W1.cell? ⟨w.heap.size + 1 + 1, 1, none⟩ = some (.slice none 0 0) := cell_heap (i := 1) yax rfl
      have yaxf1 : W1.frozen? ⟨w.heap.size + 1 + 1, 1, none⟩ = false := frozen_of_row W1 _ _ _ _ yax
      have yax2 : W1.cell? ⟨w.heap.size + 1 + 1, 2, none⟩ = some (.slice none 0 0) := cell_heap (i := 2) yax rfl
      have yaxf2 : W1.frozen? ⟨w.heap.size + 1 + 1, 2, none⟩ = false := frozen_of_row W1 _ _ _ _ yax
      have yam0 : W1.cell? ⟨w.heap.size + 1, 0, none⟩ = some (.int .i64 id) := cell_heap (i := 0) yam rfl
      have yam1 : W1.cell? ⟨w.heap.size + 1, 1, none⟩ = some (.int .i64 un) := cell_heap (i := 1) yam rfl
      have yam2 : W1.cell? ⟨w.heap.size + 1, 2, none⟩ = some (.int .i64 is) := cell_heap (i := 2) yam rfl
      have yam3 : W1.cell? ⟨w.heap.size + 1, 3, none⟩ = some (.int .i64 ma) := cell_heap (i := 3) yam rfl
      have yam4 : W1.cell? ⟨w.heap.size + 1, 4, none⟩ = some (.int .i64 ra) := cell_heap (i := 4) yam rfl
      have yam5 : W1.cell? ⟨w.heap.size + 1, 5, none⟩ = some (.int .i64 ev) := cell_heap (i := 5) yam rfl
      have yam6 : W1.cell? ⟨w.heap.size + 1, 6, none⟩ = some (.bool ix) := cell_heap (i := 6) yam rfl
      have ycr : W2.heap[w.heap.size]? = _ := (bA2.block _ (by omega)).trans ((h5b _).trans ((e3 _ (by omega)).trans HBR.out))
      have ycm : W2.heap[w.heap.size + 1]? = _ := (bA2.block _ (by omega)).trans ((h5b _).trans ((e3 _ (by omega)).trans HBM.out))
      have ycx : W2.heap[w.heap.size + 1 + 1]? = _ := (bA2.block _ (by omega)).trans ((h5b _).trans ((e3 _ (by omega)).trans HBX.out))
      have ycr0 : W2.cell? ⟨w.heap.size, 0, none⟩ = some (.slice (some ⟨b, off, none⟩) k k) := cell_heap (i := 0) ycr rfl
      have ycr1 : W2.cell? ⟨w.heap.size, 1, none⟩ = some (.slice a1 n1 c1) := cell_heap (i := 1) ycr rfl
      have ycr2 : W2.cell? ⟨w.heap.size, 2, none⟩ = some (.slice a2 n2 c2) := cell_heap (i := 2) ycr rfl
      have ycrf : W2.frozen? ⟨w.heap.size, 0, none⟩ = false := frozen_of_row W2 _ _ _ _ ycr
      have ycx0 : W2.cell? ⟨w.heap.size + 1 + 1, 0, none⟩ = some (.slice none 0 0) := cell_heap (i := 0) ycx rfl
      have ycxf0 : W2.frozen? ⟨w.heap.size + 1 + 1, 0, none⟩ = false := frozen_of_row W2 _ _ _ _ ycx
      have ycx1 : W2.cell? ⟨w.heap.size + 1 + 1, 1, none⟩ = some (.slice none 0 0) := cell_heap (i := 1) ycx rfl
      have ycxf1 : W2.frozen? ⟨w.heap.size + 1 + 1, 1, none⟩ = false := frozen_of_row W2 _ _ _ _ ycx
      have ycx2 : W2.cell? ⟨w.heap.size + 1 + 1, 2, none⟩ = some (.slice none 0 0) := cell_heap (i := 2) ycx rfl
      have ycxf2 : W2.frozen? ⟨w.heap.size + 1 + 1, 2, none⟩ = false := frozen_of_row W2 _ _ _ _ ycx
      have ycm0 : W2.cell? ⟨w.heap.size + 1, 0, none⟩ = some (.int .i64 id) := cell_heap (i := 0) ycm rfl
      have ycm1 : W2.cell? ⟨w.heap.size + 1, 1, none⟩ = some (.int .i64 un) := cell_heap (i := 1) ycm rfl
      have ycm2 : W2.cell? ⟨w.heap.size + 1, 2, none⟩ = some (.int .i64 is) := cell_heap (i := 2) ycm rfl
      have ycm3 : W2.cell? ⟨w.heap.size + 1, 3, none⟩ = some (.int .i64 ma) := cell_heap (i := 3) ycm rfl
      have ycm4 : W2.cell? ⟨w.heap.size + 1, 4, none⟩ = some (.int .i64 ra) := cell_heap (i := 4) ycm rfl
      have ycm5 : W2.cell? ⟨w.heap.size + 1, 5, none⟩ = some (.int .i64 ev) := cell_heap (i := 5) ycm rfl
      have ycm6 : W2.cell? ⟨w.heap.size + 1, 6, none⟩ = some (.bool ix) := cell_heap (i := 6) ycm rfl
      have ybr : V1.heap[w.heap.size]? = _ := (bB1.block _ (by omega)).trans ((h5b _).trans ((e3 _ (by omega)).trans HBR.out))
      have ybm : V1.heap[w.heap.size + 1]? = _ := (bB1.block _ (by omega)).trans ((h5b _).trans ((e3 _ (by omega)).trans HBM.out))
      have ybx : V1.heap[w.heap.size + 1 + 1]? = _ := (bB1.block _ (by omega)).trans ((h5b _).trans ((e3 _ (by omega)).trans HBX.out))
      have ybr0 : V1.cell? ⟨w.heap.size, 0, none⟩ = some (.slice (some ⟨b, off, none⟩) k k) := cell_heap (i := 0) ybr rfl
      have ybr1 : V1.cell? ⟨w.heap.size, 1, none⟩ = some (.slice a1 n1 c1) := cell_heap (i := 1) ybr rfl
      have ybr2 : V1.cell? ⟨w.heap.size, 2, none⟩ = some (.slice a2 n2 c2) := cell_heap (i := 2) ybr rfl
      have ybrf : V1.frozen? ⟨w.heap.size, 0, none⟩ = false := frozen_of_row V1 _ _ _ _ ybr
      have ybx0 : V1.cell? ⟨w.heap.size + 1 + 1, 0, none⟩ = some (.slice none 0 0) := cell_heap (i := 0) ybx rfl
      have ybxf0 : V1.frozen? ⟨w.heap.size + 1 + 1, 0, none⟩ = false := frozen_of_row V1 _ _ _ _ ybx
      have ybx1 : V1.cell? ⟨w.heap.size + 1 + 1, 1, none⟩ = some (.slice none 0 0) := cell_heap (i := 1) ybx rfl
      have ybxf1 : V1.frozen? ⟨w.heap.size + 1 + 1, 1, none⟩ = false := frozen_of_row V1 _ _ _ _ ybx
      have ybx2 : V1.cell? ⟨w.heap.size + 1 + 1, 2, none⟩ = some (.slice none 0 0) := cell_heap (i := 2) ybx rfl
      have ybxf2 : V1.frozen? ⟨w.heap.size + 1 + 1, 2, none⟩ = false := frozen_of_row V1 _ _ _ _ ybx
      have ybm0 : V1.cell? ⟨w.heap.size + 1, 0, none⟩ = some (.int .i64 id) := cell_heap (i := 0) ybm rfl
      have ybm1 : V1.cell? ⟨w.heap.size + 1, 1, none⟩ = some (.int .i64 un) := cell_heap (i := 1) ybm rfl
      have ybm2 : V1.cell? ⟨w.heap.size + 1, 2, none⟩ = some (.int .i64 is) := cell_heap (i := 2) ybm rfl
      have ybm3 : V1.cell? ⟨w.heap.size + 1, 3, none⟩ = some (.int .i64 ma) := cell_heap (i := 3) ybm rfl
      have ybm4 : V1.cell? ⟨w.heap.size + 1, 4, none⟩ = some (.int .i64 ra) := cell_heap (i := 4) ybm rfl
      have ybm5 : V1.cell? ⟨w.heap.size + 1, 5, none⟩ = some (.int .i64 ev) := cell_heap (i := 5) ybm rfl
      have ybm6 : V1.cell? ⟨w.heap.size + 1, 6, none⟩ = some (.bool ix) := cell_heap (i := 6) ybm rfl
      have ydr : V2.heap[w.heap.size]? = _ := (bB2.block _ (by omega)).trans ((h5b _).trans ((e3 _ (by omega)).trans HBR.out))
      have ydm : V2.heap[w.heap.size + 1]? = _ := (bB2.block _ (by omega)).trans ((h5b _).trans ((e3 _ (by omega)).trans HBM.out))
      have ydx : V2.heap[w.heap.size + 1 + 1]? = _ := (bB2.block _ (by omega)).trans ((h5b _).trans ((e3 _ (by omega)).trans HBX.out))
      have ydr0 : V2.cell? ⟨w.heap.size, 0, none⟩ = some (.slice (some ⟨b, off, none⟩) k k) := cell_heap (i := 0) ydr rfl
      have ydr1 : V2.cell? ⟨w.heap.size, 1, none⟩ = some (.slice a1 n1 c1) := cell_heap (i := 1) ydr rfl
      have ydr2 : V2.cell? ⟨w.heap.size, 2, none⟩ = some (.slice a2 n2 c2) := cell_heap (i := 2) ydr rfl
      have ydrf : V2.frozen? ⟨w.heap.size, 0, none⟩ = false := frozen_of_row V2 _ _ _ _ ydr
      have ydx0 : V2.cell? ⟨w.heap.size + 1 + 1, 0, none⟩ = some (.slice none 0 0) := cell_heap (i := 0) ydx rfl
      have ydxf0 : V2.frozen? ⟨w.heap.size + 1 + 1, 0, none⟩ = false := frozen_of_row V2 _ _ _ _ ydx
      have ydx1 : V2.cell? ⟨w.heap.size + 1 + 1, 1, none⟩ = some (.slice none 0 0) := cell_heap (i := 1) ydx rfl
      have ydxf1 : V2.frozen? ⟨w.heap.size + 1 + 1, 1, none⟩ = false := frozen_of_row V2 _ _ _ _ ydx
      have ydx2 : V2.cell? ⟨w.heap.size + 1 + 1, 2, none⟩ = some (.slice none 0 0) := cell_heap (i := 2) ydx rfl
      have ydxf2 : V2.frozen? ⟨w.heap.size + 1 + 1, 2, none⟩ = false := frozen_of_row V2 _ _ _ _ ydx
      have ydm0 : V2.cell? ⟨w.heap.size + 1, 0, none⟩ = some (.int .i64 id) := cell_heap (i := 0) ydm rfl
      have ydm1 : V2.cell? ⟨w.heap.size + 1, 1, none⟩ = some (.int .i64 un) := cell_heap (i := 1) ydm rfl
      have ydm2 : V2.cell? ⟨w.heap.size + 1, 2, none⟩ = some (.int .i64 is) := cell_heap (i := 2) ydm rfl
      have ydm3 : V2.cell? ⟨w.heap.size + 1, 3, none⟩ = some (.int .i64 ma) := cell_heap (i := 3) ydm rfl
      have ydm4 : V2.cell? ⟨w.heap.size + 1, 4, none⟩ = some (.int .i64 ra) := cell_heap (i := 4) ydm rfl
      have ydm5 : V2.cell? ⟨w.heap.size + 1, 5, none⟩ = some (.int .i64 ev) := cell_heap (i := 5) ydm rfl
      have ydm6 : V2.cell? ⟨w.heap.size + 1, 6, none⟩ = some (.bool ix) := cell_heap (i := 6) ydm rfl
      have zar : W7.heap[w.heap.size]? = _ := (bA.block _ (by omega)).trans ((h5b _).trans ((e3 _ (by omega)).trans HBR.out))
      have zax : W7.heap[w.heap.size + 1 + 1]? = _ := (bA.block _ (by omega)).trans ((h5b _).trans ((e3 _ (by omega)).trans HBX.out))
      have zar0 : W7.cell? ⟨w.heap.size, 0, none⟩ = some (.slice (some ⟨b, off, none⟩) k k) := cell_heap (i := 0) zar rfl
      have zar1 : W7.cell? ⟨w.heap.size, 1, none⟩ = some (.slice a1 n1 c1) := cell_heap (i := 1) zar rfl
      have zar2 : W7.cell? ⟨w.heap.size, 2, none⟩ = some (.slice a2 n2 c2) := cell_heap (i := 2) zar rfl
      have zarf : W7.frozen? ⟨w.heap.size, 0, none⟩ = false := frozen_of_row W7 _ _ _ _ zar
      have zax0 : W7.cell? ⟨w.heap.size + 1 + 1, 0, none⟩ = some (.slice none 0 0) := cell_heap (i := 0) zax rfl
      have zaxf0 : W7.frozen? ⟨w.heap.size + 1 + 1, 0, none⟩ = false := frozen_of_row W7 _ _ _ _ zax
      have zax1 : W7.cell? ⟨w.heap.size + 1 + 1, 1, none⟩ = some (.slice none 0 0) := cell_heap (i := 1) zax rfl
      have zaxf1 : W7.frozen? ⟨w.heap.size + 1 + 1, 1, none⟩ = false := frozen_of_row W7 _ _ _ _ zax
      have zax2 : W7.cell? ⟨w.heap.size + 1 + 1, 2, none⟩ = some (.slice none 0 0) := cell_heap (i := 2) zax rfl
      have zaxf2 : W7.frozen? ⟨w.heap.size + 1 + 1, 2, none⟩ = false := frozen_of_row W7 _ _ _ _ zax
      have zbr : W8.heap[w.heap.size]? = _ := (bB.block _ (by omega)).trans ((h5b _).trans ((e3 _ (by omega)).trans HBR.out))
      have zbx : W8.heap[w.heap.size + 1 + 1]? = _ := (bB.block _ (by omega)).trans ((h5b _).trans ((e3 _ (by omega)).trans HBX.out))
      have zbr0 : W8.cell? ⟨w.heap.size, 0, none⟩ = some (.slice (some ⟨b, off, none⟩) k k) := cell_heap (i := 0) zbr rfl
      have zbr1 : W8.cell? ⟨w.heap.size, 1, none⟩ = some (.slice a1 n1 c1) := cell_heap (i := 1) zbr rfl
      have zbr2 : W8.cell? ⟨w.heap.size, 2, none⟩ = some (.slice a2 n2 c2) := cell_heap (i := 2) zbr rfl
      have zbrf : W8.frozen? ⟨w.heap.size, 0, none⟩ = false := frozen_of_row W8 _ _ _ _ zbr
      have zbx0 : W8.cell? ⟨w.heap.size + 1 + 1, 0, none⟩ = some (.slice none 0 0) := cell_heap (i := 0) zbx rfl
      have zbxf0 : W8.frozen? ⟨w.heap.size + 1 + 1, 0, none⟩ = false := frozen_of_row W8 _ _ _ _ zbx
      have zbx1 : W8.cell? ⟨w.heap.size + 1 + 1, 1, none⟩ = some (.slice none 0 0) := cell_heap (i := 1) zbx rfl
      have zbxf1 : W8.frozen? ⟨w.heap.size + 1 + 1, 1, none⟩ = false := frozen_of_row W8 _ _ _ _ zbx
      have zbx2 : W8.cell? ⟨w.heap.size + 1 + 1, 2, none⟩ = some (.slice none 0 0) := cell_heap (i := 2) zbx rfl
      have zbxf2 : W8.frozen? ⟨w.heap.size + 1 + 1, 2, none⟩ = false := frozen_of_row W8 _ _ _ _ zbx
      have yk0 : (W5.alloc (.cells #[.int .i64 id, .int .i64 un, .int .i64 is, .int .i64 ma, .int .i64 ra, .int .i64 ev, .bool ix] 26 (0, 0))).cell? ⟨w.heap.size, 0, none⟩ = some (.slice (some ⟨b, off, none⟩) k k) := keepA (w := W5) yr0
      have yl0 : (W1.alloc (.cells #[.int .i64 id, .int .i64 un, .int .i64 is, .int .i64 ma, .int .i64 ra, .int .i64 ev, .bool ix] 26 (0, 0))).cell? ⟨w.heap.size, 0, none⟩ = some (.slice (some ⟨b, off, none⟩) k k) := keepA (w := W1) yar0
      clear yr ym yx yar yam yax ycr ycm ycx ybr ybm ybx ydr ydm ydx zar zax zbr zbx hA1 hA2 hA3 hB1 hB1' hB2 hB3 oA oB bA bA1 bA2 bB bB1 bB2 hSv e3
      clear hW5 hlen h5b
      clear b0 b1 b2 b3 b4 b5 b6 r0 r1 r2 x0 x1 x2 xf0 xf1 xf2 rf0
      rename_i K hK
      go_region_law (first | refine step_append_runZ rfl (.const (.slice none 0 0)) (.tmp 56) 27 27 rfl (.slice none 0 0) (.slice (some ⟨b, off, none⟩) k k) (by simp [Act.eval, Act.put]) (by simp [Act.eval, Act.put]) HA1.out ?_ | refine step_append_runZ rfl (.const (.slice none 0 0)) (.tmp 56) 27 27 rfl (.slice none 0 0) (.slice (some ⟨b, off, none⟩) k k) (by simp [Act.eval, Act.put]) (by simp [Act.eval, Act.put]) HBB1.out ?_ | refine step_append_runZ rfl (.tmp 57) (.tmp 59) 27 27 rfl (.slice a1' k c1') (.slice (some ⟨W1.heap.size, 0, none⟩) 1 1) (by simp [Act.eval, Act.put]) (by simp [Act.eval, Act.put]) HA2.out ?_ | refine step_append_runZ rfl (.tmp 57) (.tmp 59) 27 27 rfl (.slice d1' k e1') (.slice (some ⟨W5.drew.heap.size, 0, none⟩) 1 1) (by simp [Act.eval, Act.put]) (by simp [Act.eval, Act.put]) HBB2.out ?_ | refine step_append_runZ rfl (.tmp 60) (.tmp 64) 27 27 rfl (.slice a2' (k + 1) c2') (.slice (some ⟨b, off, none⟩) 0 0) (by simp [Act.eval, Act.put]) (by simp [Act.eval, Act.put]) HA3.out ?_ | refine step_append_runZ rfl (.tmp 60) (.tmp 64) 27 27 rfl (.slice d2' (k + 1) e2') (.slice (some ⟨b, off, none⟩) 0 0) (by simp [Act.eval, Act.put]) (by simp [Act.eval, Act.put]) HBB3.out ?_)
      all_goals (refine hK _ _ ?_; go_wp2; first | (refine bodyPost_ret (v := .tuple #[.agg #[.slice a3' (k + 1 + 0) c3', .slice a1 n1 c1, .slice a2 n2 c2], .int .i64 0]) (by simp [results, Tryz.results122, go_sem, zax0, zax1, zax2]) rfl ?_; rw [← HQ0.out]; exact HFA.out) | (refine bodyPost_ret (v := .tuple #[.agg #[.slice d3' (k + 1 + 0) e3', .slice a1 n1 c1, .slice a2 n2 c2], .int .i64 0]) (by simp [results, Tryz.results122, go_sem, zbx0, zbx1, zbx2]) rfl ?_; rw [← HQ0.out]; exact HFB.out))
end Go.Proofs.YthjaofgdickkaaaGreat
