/- bond and sane of the statements on registers. Printed by wip/gen/sane33.py. -/
import Derived.Test.YtpoidaenkjjdfaaZSrcReg
namespace Go.Proofs.Ytpoidaenkjjdfaa
open Go.RowKit
set_option linter.unusedVariables false
set_option linter.unusedSimpArgs false
theorem bond_any (w : World) : Calls Try.prog 69 #[] w fun e w' => e = .returned (.agg #[.int .i64 1, .int .i64 100, .int .i64 0, .int .i64 360, .int .i64 5000, .int .i64 6, .bool false]) ∧ Below w.heap.size w w' := by
  go_enter Try.func69, Try.ntmps69
  go_wp2
  refine bodyPost_ret (v := .agg #[.int .i64 1, .int .i64 100, .int .i64 0, .int .i64 360, .int .i64 5000, .int .i64 6, .bool false]) (by simp [results, Try.results69, go_sem]) rfl ⟨rfl, bal brefl _⟩
def saneR1 : Reg := raR ⟨[], [], []⟩ ⟨1, 100, 0, 360, 5000, 6, false⟩
def saneR2 : Reg := rmR saneR1 ⟨0, 0, 1, 1, 0, 1, 1000⟩
def saneR3 : Reg := rmR saneR2 ⟨0, 1, 2, 1, 1, 2, 400⟩
theorem saneE1 : raE ⟨[], [], []⟩ ⟨1, 100, 0, 360, 5000, 6, false⟩ = 0 := by decide
theorem saneE2 : rmE saneR1 ⟨0, 0, 1, 1, 0, 1, 1000⟩ = 0 := by decide
theorem saneE3 : rmE saneR2 ⟨0, 1, 2, 1, 1, 2, 400⟩ = 0 := by decide
theorem saneV : rgHeld saneR3 1 1 = 600 ∧ rgHeld saneR3 1 2 = 400 ∧ rgOut saneR3 1 = 1000 := by decide
theorem saneL : (saneR1.secs.length ≤ 1000000 ∧ saneR1.hs.length ≤ 1000000 ∧ saneR1.ms.length ≤ 1000000) ∧ (saneR2.secs.length ≤ 1000000 ∧ saneR2.hs.length ≤ 1000000 ∧ saneR2.ms.length ≤ 1000000) ∧ (saneR3.secs.length ≤ 1000000 ∧ saneR3.hs.length ≤ 1000000 ∧ saneR3.ms.length ≤ 1000000) := by decide
set_option maxHeartbeats 4000000 in
set_option maxRecDepth 100000 in
theorem sane33_any (w : World) : Calls Try.prog 8 #[] w fun e w' => e = .returned (.bool true) ∧ Below w.heap.size w w' := by
  go_enter Try.func8, Try.ntmps8
  go_wp2_with fail
  refine (bond_any _).mono ?_
  rintro e w1 ⟨rfl, hb1⟩
  go_wp2_with fail
  refine (radd_any (fun b => w.heap.size ≤ b) _ _ _ ⟨[], [], []⟩ 1 100 0 360 5000 6 false w1 (rgIn_nil _ _) (by simp) (by simp) (by simp) (fun b hb => by have := hb1.size; omega)).mono ?_
  rw [saneE1]
  change ∀ _ _, GaveR _ saneR1 0 _ _ _ → _
  rintro e w2 hg
  obtain ⟨a0, n0, c0, a1, n1, c1, a2, n2, c2, rfl, hq, hb2⟩ := hg.shape
  have HQ1 := Lib.hid hq
  have HB2 := Lib.hid (bup hb1 hb2)
  clear hg hq hb1 hb2
  go_wp2_with fail
  refine (rIssue_any (fun b => w.heap.size ≤ b ∧ b ≠ w2.heap.size) _ _ _ saneR1 0 1 1 1000 _ ((HQ1.out.mono (Q := fun b => w.heap.size ≤ b ∧ b ≠ w2.heap.size) (fun b h hl => ⟨h, by omega⟩)).below (bal brefl _)) saneL.1.1 saneL.1.2.1 saneL.1.2.2 (fun b hb => by simp only [World.size_alloc] at hb; have := HB2.out.size; omega)).mono ?_
  rw [saneE2]
  change ∀ _ _, GaveR _ saneR2 0 _ _ _ → _
  rintro e w3 hg
  obtain ⟨b0, m0, d0, b1, m1, d1, b2, m2, d2, rfl, hq, hb3⟩ := hg.shape
  have hx := box_below hb3
  have HB3 := Lib.hid (bup (bal HB2.out _) hb3)
  have z3 := hb3.size
  simp only [World.size_alloc] at z3
  have HQ2 := Lib.hid hq
  have HX3 := Lib.hid hx
  have x0 := cell_heap (i := 0) hx rfl
  have x1 := cell_heap (i := 1) hx rfl
  have x2 := cell_heap (i := 2) hx rfl
  have xf0 := frozen_of_row w3 _ 0 _ _ hx
  have xf1 := frozen_of_row w3 _ 1 _ _ hx
  have xf2 := frozen_of_row w3 _ 2 _ _ hx
  clear hg hq hb3 hx
  obtain ⟨W3, hW3⟩ : ∃ W, W = ((w3.setCell ⟨w2.heap.size, 0, none⟩ (.slice b0 m0 d0)).setCell ⟨w2.heap.size, 1, none⟩ (.slice b1 m1 d1)).setCell ⟨w2.heap.size, 2, none⟩ (.slice b2 m2 d2) := ⟨_, rfl⟩
  have hz3 : W3.heap.size = w3.heap.size := by rw [hW3]; simp [World.setCell]
  have hB3 : Below w.heap.size w W3 := by rw [hW3]; exact HB3.out.trans (below_set3 w3 HB2.out.size _ _ _)
  have hQ2 : RgIn (fun b => w.heap.size ≤ b ∧ b ≠ w2.heap.size) W3 (.slice b0 m0 d0) (.slice b1 m1 d1) (.slice b2 m2 d2) saneR2 := by rw [hW3]; exact HQ2.out.set3 (fun k hk => hk.2)
  have e0 := heap_setCell_same w3 _ 0 _ _ (.slice b0 m0 d0) HX3.out
  have e1 := heap_setCell_same _ _ 1 _ _ (.slice b1 m1 d1) e0
  have e2 := heap_setCell_same _ _ 2 _ _ (.slice b2 m2 d2) e1
  rw [← hW3] at e2
  have HE3 := Lib.hid e2
  have HW3 := Lib.hid hW3
  have HBW3 := Lib.hid hB3
  have HQW3 := Lib.hid hQ2
  clear e0 e1 e2 hW3 hB3 hQ2
  go_wp2_with fail
  rw [← HW3.out]
  refine (rTransfer_any (fun b => w.heap.size ≤ b ∧ b ≠ w2.heap.size) _ _ _ saneR2 1 1 1 2 400 W3 HQW3.out saneL.2.1.1 saneL.2.1.2.1 saneL.2.1.2.2 (fun b hb => by have := HBW3.out.size; omega)).mono ?_
  rw [saneE3]
  change ∀ _ _, GaveR _ saneR3 0 _ _ _ → _
  rintro e w4 hg
  obtain ⟨p0, q0, l0, p1, q1, l1, p2, q2, l2, rfl, hq, hb4⟩ := hg.shape
  have hx4 := (hb4.block w2.heap.size (by omega)).trans HE3.out
  have HB4 := Lib.hid (bup HBW3.out hb4)
  have z4 := hb4.size
  have HQ4 := Lib.hid hq
  have HX4 := Lib.hid hx4
  clear x0 x1 x2 xf0 xf1 xf2
  have x0 := cell_heap (i := 0) hx4 rfl
  have x1 := cell_heap (i := 1) hx4 rfl
  have x2 := cell_heap (i := 2) hx4 rfl
  have xf0 := frozen_of_row w4 _ 0 _ _ hx4
  have xf1 := frozen_of_row w4 _ 1 _ _ hx4
  have xf2 := frozen_of_row w4 _ 2 _ _ hx4
  clear hg hq hb4 hx4
  obtain ⟨W4, hW4⟩ : ∃ W, W = ((w4.setCell ⟨w2.heap.size, 0, none⟩ (.slice p0 q0 l0)).setCell ⟨w2.heap.size, 1, none⟩ (.slice p1 q1 l1)).setCell ⟨w2.heap.size, 2, none⟩ (.slice p2 q2 l2) := ⟨_, rfl⟩
  have hz4 : W4.heap.size = w4.heap.size := by rw [hW4]; simp [World.setCell]
  have hB4 : Below w.heap.size w W4 := by rw [hW4]; exact HB4.out.trans (below_set3 w4 HB2.out.size _ _ _)
  have hQ4 : RgIn (fun b => w.heap.size ≤ b ∧ b ≠ w2.heap.size) W4 (.slice p0 q0 l0) (.slice p1 q1 l1) (.slice p2 q2 l2) saneR3 := by rw [hW4]; exact HQ4.out.set3 (fun k hk => hk.2)
  have e0 := heap_setCell_same w4 _ 0 _ _ (.slice p0 q0 l0) HX4.out
  have e1 := heap_setCell_same _ _ 1 _ _ (.slice p1 q1 l1) e0
  have e2 := heap_setCell_same _ _ 2 _ _ (.slice p2 q2 l2) e1
  rw [← hW4] at e2
  have HE4 := Lib.hid e2
  have HW4 := Lib.hid hW4
  have HBW4 := Lib.hid hB4
  have HQW4 := Lib.hid hQ4
  clear e0 e1 e2 hW4 hB4 hQ4
  go_wp2_with fail
  rw [← HW4.out]
  refine (rheld_any _ _ _ _ saneR3 1 1 W4 HQW4.out saneL.2.2.1 saneL.2.2.2.1 saneL.2.2.2.2).mono ?_
  rw [saneV.1]
  rintro e w5 ⟨rfl, hb5⟩
  have hx5 := (hb5.block w2.heap.size (by omega)).trans HE4.out
  have z5 := hb5.size
  have HB5 := Lib.hid (bup HBW4.out hb5)
  have HQ5 := Lib.hid (HQW4.out.below hb5)
  clear x0 x1 x2 xf0 xf1 xf2
  have x0 := cell_heap (i := 0) hx5 rfl
  have x1 := cell_heap (i := 1) hx5 rfl
  have x2 := cell_heap (i := 2) hx5 rfl
  clear hb5
  go_wp2_with fail
  refine (rheld_any _ _ _ _ saneR3 1 2 w5 HQ5.out saneL.2.2.1 saneL.2.2.2.1 saneL.2.2.2.2).mono ?_
  rw [saneV.2.1]
  rintro e w6 ⟨rfl, hb6⟩
  have hx6 := (hb6.block w2.heap.size (by omega)).trans hx5
  have HB6 := Lib.hid (bup HB5.out hb6)
  have HQ6 := Lib.hid (HQ5.out.below hb6)
  clear x0 x1 x2 hx5
  have x0 := cell_heap (i := 0) hx6 rfl
  have x1 := cell_heap (i := 1) hx6 rfl
  have x2 := cell_heap (i := 2) hx6 rfl
  clear hb6
  go_wp2_with fail
  refine (rout_any _ _ _ _ saneR3 1 w6 HQ6.out saneL.2.2.1 saneL.2.2.2.1 saneL.2.2.2.2).mono ?_
  rw [saneV.2.2]
  rintro e w7 ⟨rfl, hb7⟩
  have HB7 := Lib.hid (bup HB6.out hb7)
  clear hb7
  go_wp2
  go_ret
  exact ⟨rfl, HB7.out⟩
end Go.Proofs.Ytpoidaenkjjdfaa
