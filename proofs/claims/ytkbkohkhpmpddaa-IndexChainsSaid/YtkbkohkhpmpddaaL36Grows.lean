/- IndexGrows. -/
import Derived.Test.YtkbkohkhpmpddaaL36Fill
namespace Go.Proofs.Ytkbkohkhpmpddaa
open Go.RowKit
set_option linter.unusedVariables false

theorem below_up' {B : Nat} {w w1 w2 : World} (h : Below B w w1) (k : Below w1.heap.size w1 w2) (hB : B ≤ w.heap.size := by omega) : Below B w w2 := h.trans (k.mono (Nat.le_trans hB h.size))
theorem ybox_below {w w' : World} {B g2 cap : Nat} (h : w.cell? ⟨B, 0, none⟩ = some (.int .i64 0) ∧ w.cell? ⟨B, 1, none⟩ = some (.slice (some ⟨g2, 0, none⟩) 14 cap)) (hb : Below w.heap.size w w') : w'.cell? ⟨B, 0, none⟩ = some (.int .i64 0) ∧ w'.cell? ⟨B, 1, none⟩ = some (.slice (some ⟨g2, 0, none⟩) 14 cap) := by
  have q := World.block_lt_of_cell? w _ h.1
  exact ⟨(hb.cell (by exact q)).trans h.1, (hb.cell (by exact q)).trans h.2⟩
theorem ybox_set {w : World} {B g2 cap : Nat} (h : w.cell? ⟨B, 0, none⟩ = some (.int .i64 0) ∧ w.cell? ⟨B, 1, none⟩ = some (.slice (some ⟨g2, 0, none⟩) 14 cap)) (k : Nat) (v : Value) (hne : B ≠ g2) : (w.setCell ⟨g2, k, none⟩ v).cell? ⟨B, 0, none⟩ = some (.int .i64 0) ∧ (w.setCell ⟨g2, k, none⟩ v).cell? ⟨B, 1, none⟩ = some (.slice (some ⟨g2, 0, none⟩) 14 cap) :=
  ⟨(World.cell?_setCell_other _ _ _ _ (by intro h; injection h; omega)).trans h.1, (World.cell?_setCell_other _ _ _ _ (by intro h; injection h; omega)).trans h.2⟩
theorem tenbox_set {w W' : World} {B g g2 : Nat} (h : w.cell? ⟨B, 0, none⟩ = some (.int .i64 1) ∧ w.cell? ⟨B, 1, none⟩ = some (.int .i64 1) ∧ w.cell? ⟨B, 2, none⟩ = some (.int .i64 90) ∧ w.cell? ⟨B, 3, none⟩ = some (.int .i64 450) ∧ w.cell? ⟨B, 4, none⟩ = some (.int .i64 5000) ∧ w.cell? ⟨B, 5, none⟩ = some (.int .i64 6) ∧ w.cell? ⟨B, 6, none⟩ = some (.bool true) ∧ w.cell? ⟨B + 1, 0, none⟩ = some (.int .i64 0) ∧ w.cell? ⟨B + 1, 1, none⟩ = some (.slice (some ⟨g, 0, none⟩) 14 14)) (hb : Below g2 w W') (hlt : B + 1 < g2) : W'.cell? ⟨B, 0, none⟩ = some (.int .i64 1) ∧ W'.cell? ⟨B, 1, none⟩ = some (.int .i64 1) ∧ W'.cell? ⟨B, 2, none⟩ = some (.int .i64 90) ∧ W'.cell? ⟨B, 3, none⟩ = some (.int .i64 450) ∧ W'.cell? ⟨B, 4, none⟩ = some (.int .i64 5000) ∧ W'.cell? ⟨B, 5, none⟩ = some (.int .i64 6) ∧ W'.cell? ⟨B, 6, none⟩ = some (.bool true) ∧ W'.cell? ⟨B + 1, 0, none⟩ = some (.int .i64 0) ∧ W'.cell? ⟨B + 1, 1, none⟩ = some (.slice (some ⟨g, 0, none⟩) 14 14) := by
  obtain ⟨h0, h1, h2, h3, h4, h5, h6, h7, h8⟩ := h
  have q : B < g2 := by omega
  exact ⟨(hb.cell (by exact q)).trans h0, (hb.cell (by exact q)).trans h1, (hb.cell (by exact q)).trans h2, (hb.cell (by exact q)).trans h3, (hb.cell (by exact q)).trans h4, (hb.cell (by exact q)).trans h5, (hb.cell (by exact q)).trans h6, (hb.cell (by exact hlt)).trans h7, (hb.cell (by exact hlt)).trans h8⟩
theorem grownBy_undrew {w w' : World} {row : Option Nat} (h : w.drew.grownBy w' row) : w.grownBy w' row := ⟨h.os, h.tape, h.output, h.size, h.block⟩
set_option maxHeartbeats 4000000 in
set_option maxRecDepth 100000 in
theorem grows_walk (a0 : Option Addr) (len0 cap0 : Nat) (a m : Int) (w : World) (h1 : len0 ≤ cap0) (h2 : cap0 ≤ maxLen) (hz : len0 = 0 ∨ ∃ b off, a0 = some ⟨b, off, none⟩ ∧ ∀ i, i < len0 → ∃ z : Int, w.cell? ⟨b, off + i, none⟩ = some (.int .i64 z)) (x0 : 0 ≤ a) (x1 : a ≤ 65535) (y0 : 0 ≤ m) (y1 : m ≤ 255) :
    Calls Try.prog 7 #[.slice a0 len0 cap0, .int .u16 a, .int .u8 m] w fun e w' => e = .returned (.bool true) ∧ Below w.heap.size w w' := by
  obtain ⟨i1, hi, hz0, hz1, hz2⟩ := info_parts infoInt
  go_enter Try.func7, Try.ntmps7
  go_wp2_with fail
  refine (new_any a0 len0 cap0 w h1 h2 hz).mono ?_
  rintro e w1 ⟨sb, rfl, hsb, hS1, hB1⟩
  clear hz
  go_wp2_with fail
  refine (tenth_any _).mono ?_
  rintro e w2 ⟨g, rfl, hg0, hg1, hc2, hf2, hb2⟩
  have hl1 := srcOk_lt hS1
  have hS2 := srcOk_below hS1 hb2 hl1
  have hB2 : Below w.heap.size w w2 := hB1.trans (hb2.mono hB1.size)
  have z1 := hB1.size
  have z2 := hb2.size
  clear hB1 hb2 hS1
  go_wp2
  have F0 := finv_start hS2 hc2 hf2 hg1
  have hl2 := srcOk_lt hS2
  have hsg : sb < g := by omega
  go_loopw [30] (fun iv wr => ∃ k : Nat, k ≤ 14 ∧ iv = .int .i64 k ∧ FInv sb g k (tenWorld w2 g) wr) (fun iv _ => 14 - (intOf iv).toNat)
  case atStart => exact ⟨0, by omega, rfl, F0⟩
  case round =>
    obtain ⟨k, hk, rfl, hF⟩ := hrel
    have hbx := ten_boxes hF.keep hl2 hg1
    have zr := hF.keep.size
    rw [tenWorld_size] at zr
    have HF := Lib.hid hF
    clear hF F0 hc2 hf2
    by_cases hlt : k < 14
    · obtain ⟨c0, c1, c2, c3, c4, c5, c6, c7, c8⟩ := hbx
      obtain ⟨u, hu, _⟩ := HF.out.cells k hlt
      have fu := HF.out.frz k
      have j0 : (0 : Int) ≤ (k : Int) := by omega
      have j1 : (k : Int) < 14 := by omega
      clear c0 c1 c2 c3 c4 c5 c6 c7
      go_wp2_with fail
      go_region_held3 (fun w' => w'.cell? ⟨w2.heap.size + 1, 1, none⟩ = some (.slice (some ⟨g, 0, none⟩) 14 14)) (first | exact hG7.cell c8 (by simp; omega) | exact (World.cell?_setCell_other _ _ _ _ (by intro h; injection h; omega)).trans (hG7.cell c8 (by simp; omega)) | go_keep)
        (first | (go_at_call 22; refine (range_any sb 50 150 _ ?_ (by decide) (by decide) (by decide)).mono ?_; exact srcOk_drewN HF.out.src 1; rintro e w7 ⟨v, ⟨v0, v1⟩, rfl, hS7, hG7'⟩; have hG7 := grownBy_undrew hG7'; have hu7 := hG7.cell hu (by simp; omega); have fu7 := (World.frozen?_of_block (a := ⟨g, k, none⟩) (hG7.block g (by omega) (by simp; omega))).trans fu))
      all_goals
        have HN := Lib.hid (finv_step HF.out hsg hlt hG7 hS7 v0 v1)
        go_wp2
        go_roundw
        case rel => exact ⟨k + 1, by omega, by go_num, HN.out⟩
        case measure => simp [intOf]; omega
    · have hk14 : k = 14 := by omega
      subst hk14
      obtain ⟨hc, hx⟩ := finv_end HF.out
      have HX := Lib.hid hx
      have HC := Lib.hid hc
      have HS := Lib.hid HF.out.src
      have hBr : Below w.heap.size w wr := (hB2.trans ((tenWorld_below w2 g).mono (Nat.le_trans z1 z2))).trans (HF.out.keep.below hsb (by omega) (by rw [tenWorld_size]; omega))
      obtain ⟨c0, c1, c2, c3, c4, c5, c6, c7, c8⟩ := hbx
      clear hc hx
      have hbox : wr.cell? ⟨w2.heap.size, 0, none⟩ = some (.int .i64 1) ∧ wr.cell? ⟨w2.heap.size, 1, none⟩ = some (.int .i64 1) ∧ wr.cell? ⟨w2.heap.size, 2, none⟩ = some (.int .i64 90) ∧ wr.cell? ⟨w2.heap.size, 3, none⟩ = some (.int .i64 450) ∧ wr.cell? ⟨w2.heap.size, 4, none⟩ = some (.int .i64 5000) ∧ wr.cell? ⟨w2.heap.size, 5, none⟩ = some (.int .i64 6) ∧ wr.cell? ⟨w2.heap.size, 6, none⟩ = some (.bool true) ∧ wr.cell? ⟨w2.heap.size + 1, 0, none⟩ = some (.int .i64 0) ∧ wr.cell? ⟨w2.heap.size + 1, 1, none⟩ = some (.slice (some ⟨g, 0, none⟩) 14 14) := ⟨c0, c1, c2, c3, c4, c5, c6, c7, c8⟩
      have HBX := Lib.hid hbox
      clear hbox c0 c1 c2 c3 c4 c5 c6 c7
      obtain ⟨xs, hxs⟩ : ∃ xs : Nat → Int, xs = readI wr g := ⟨_, rfl⟩
      rw [← hxs] at HX HC
      clear hxs
      go_wp2_with (at_builtin; refine wpList_append_own _ rfl _ _ 22 rfl wr.heap.size 3 i1 (.int .i64 0) 1 8 Try.underlying22 hi hz0 hz1 hz2 rfl (by decide) _ _ _ rfl (World.ownsRow_nil _ _ _ _) ⟨g, 0, none⟩ 14 14 ((List.range 14).map fun j => .int .i64 (xs j)) rfl (by simp) (newsN HC.out) (oneN _ _) (by unfold maxLen; omega) (by omega) (Nat.le_refl _) ?_; intro v' w3 hown hgrow _; obtain ⟨g2, cap2, hv, hg2, hg3, hcp, hcm, hy0, hyf⟩ := own_shape hown (by decide); rw [hv])
      have hb3 : Below wr.heap.size wr w3 := (Below.refl _ _).grown hgrow (Nat.le_refl _) (fun q hq => by cases hq)
      have hS3 := srcOk_below HS.out hb3 (srcOk_lt HS.out)
      have hB3 : Below w.heap.size w w3 := hBr.trans (hb3.mono hBr.size)
      have z3 := hb3.size
      have hl3 : sb < w3.heap.size := by omega
      have HT3 := Lib.hid (tenbox_below HBX.out hb3)
      refine (range_any sb 90 450 _ (srcOk_alloc hS3 _) (by decide) (by decide) (by decide)).mono ?_
      rintro e w4 ⟨day, ⟨d0, d1⟩, rfl, hS4, hG4⟩
      have z4 := hG4.size
      simp only [World.size_alloc] at z4
      have hB4 : Below w.heap.size w w4 := (hB3.alloc hB3.size _).trans (below_of_grown hG4 hsb (by simp; omega))
      have HT4 := Lib.hid (tenbox_grown (tenbox_below HT3.out ((Below.refl _ _).alloc (Nat.le_refl _) _)) hG4 hl2)
      have HY4 := Lib.hid (show w4.cell? ⟨w3.heap.size, 0, none⟩ = some (.int .i64 0) ∧ w4.cell? ⟨w3.heap.size, 1, none⟩ = some (.slice (some ⟨g2, 0, none⟩) 14 cap2) from ⟨box_cell hG4 hl3 0 rfl, box_cell hG4 hl3 1 rfl⟩)
      have HCX := Lib.hid (show ∀ j, j < 14 → w4.cell? ⟨g, j, none⟩ = some (.int .i64 (xs j)) from fun j hj => hG4.cell ((World.cell?_alloc_past _ _ _ (by omega)).trans ((hb3.cell (p := ⟨g, j, none⟩) (by show g < wr.heap.size; omega)).trans (HC.out j hj))) (by simp; omega))
      have HCY := Lib.hid (show ∀ j, j < 14 → w4.cell? ⟨g2, j, none⟩ = some (.int .i64 (xs j)) from fun j hj => hG4.cell ((World.cell?_alloc_past _ _ _ hg3).trans (hy0 j _ (by simp [List.getElem?_range hj]))) (by simp; omega))
      have HFY := Lib.hid (show ∀ o, w4.frozen? ⟨g2, o, none⟩ = false from fun o => (World.frozen?_of_block (a := ⟨g2, o, none⟩) ((hG4.block g2 (by simp; omega) (by simp; omega)).trans (Below.heap_alloc _ _ _ hg3))).trans (hyf o))
      obtain ⟨c0, c1, c2, c3, c4, c5, c6, c7, c8⟩ := HT4.out
      obtain ⟨e0, e1⟩ := HY4.out
      have HXS := Lib.hid (show ∀ j, j < 14 → 50 ≤ xs j ∧ xs j ≤ 405 from fun j hj => by have := HX.out j hj; omega)
      obtain ⟨k, hk, hk12⟩ : ∃ k : Nat, day / 30 = (k : Int) + 3 ∧ k ≤ 12 := ⟨(day / 30 - 3).toNat, by omega, by omega⟩
      have hkn : (day / 30 - 3).toNat = k := by omega
      have HKN := Lib.hid hkn
      clear hgrow hown hy0 hyf hb3 hS3 hG4 hB3 hBr hS2 hB2 hkn
      by_cases hk0 : k = 0
      · subst hk0
        have hk3 : day / 30 = 3 := by omega
        clear hk
        obtain ⟨ys, hys⟩ : ∃ ys, ys = xs := ⟨_, rfl⟩
        have HYS := Lib.hid (show ∀ j, j < 14 → 50 ≤ ys j ∧ ys j ≤ 405 by rw [hys]; exact HXS.out)
        have HLE := Lib.hid (grows_facts HXS.out HYS.out (by rw [hys]) d0 d1 (by rw [hys]; exact Int.le_refl _) x0 x1)
        have HIX := Lib.hid (show IxOk w4 (some ⟨g, 0, none⟩) 14 14 xs from ⟨by omega, by unfold maxLen; omega, .inr ⟨g, 0, rfl, fun j hj => by rw [Nat.zero_add]; exact HCX.out j hj⟩⟩)
        have HIY := Lib.hid (show IxOk w4 (some ⟨g2, 0, none⟩) 14 cap2 ys from ⟨hcp, hcm, .inr ⟨g2, 0, rfl, fun j hj => by rw [Nat.zero_add, hys]; exact HCY.out j hj⟩⟩)
        have HT5 := HT4
        have HY5 := HY4
        have hB5 := hB4
        clear hys
        have v1 := ten_sc HXS.out d0 d1 x0 x1
        have v2 := ten_sc HYS.out d0 d1 x0 x1
        have v3 := ten_sc HXS.out (day := 450) (by omega) (by omega) x0 x1
        obtain ⟨va, hva⟩ : ∃ r, scV 0 14 xs 1 1 90 450 5000 6 true a day = r := ⟨_, rfl⟩
        obtain ⟨vb, hvb⟩ : ∃ r, scV 0 14 ys 1 1 90 450 5000 6 true a day = r := ⟨_, rfl⟩
        obtain ⟨vd, hvd⟩ : ∃ r, scV 0 14 xs 1 1 90 450 5000 6 true a 450 = r := ⟨_, rfl⟩
        have hle : va ≤ vb := by rw [← hva, ← hvb]; exact HLE.out
        have hfn : fnV 0 14 xs 1 1 90 450 5000 6 true a = max vd a := by unfold fnV; rw [if_pos v3.1, hvd]
        have V := Lib.hid (And.intro v1.1 (And.intro hva (And.intro v2.1 (And.intro hvb (And.intro v3.1 (And.intro hvd hfn))))))
        clear v1 v2 v3 hva hvb hvd hfn
        rcases (show a ≤ vd ∨ vd < a by omega) with g9 | g9
        all_goals
          have hmx := Lib.hid (show max vd a = if a ≤ vd then vd else a by split <;> omega)
          go_wp2_with fail
          refine (scaled_any 0 (some ⟨g, 0, none⟩) 14 14 xs 1 1 90 450 5000 6 true a day _ HIX.out).mono ?_
          rw [V.out.1, V.out.2.1]
          rintro e w6 ⟨rfl, hb6⟩
          have HT6 := Lib.hid (tenbox_below HT5.out hb6)
          have HY6 := Lib.hid (ybox_below HY5.out hb6)
          have HX6 := Lib.hid (HIX.out.below hb6)
          have HJ6 := Lib.hid (HIY.out.below hb6)
          have hB6 := below_up' hB5 hb6
          have z6 := hb6.size
          clear hb6 c0 c1 c2 c3 c4 c5 c6 c7 c8 e0 e1
          obtain ⟨c0, c1, c2, c3, c4, c5, c6, c7, c8⟩ := HT6.out
          obtain ⟨e0, e1⟩ := HY6.out
          go_wp2_with fail
          refine (scaled_any 0 (some ⟨g2, 0, none⟩) 14 cap2 ys 1 1 90 450 5000 6 true a day _ HJ6.out).mono ?_
          rw [V.out.2.2.1, V.out.2.2.2.1]
          rintro e w7 ⟨rfl, hb7⟩
          have HT7 := Lib.hid (tenbox_below HT6.out hb7)
          have HX7 := Lib.hid (HX6.out.below hb7)
          have hB7 := below_up' hB6 hb7
          have z7 := hb7.size
          clear hb7 c0 c1 c2 c3 c4 c5 c6 c7 c8 e0 e1
          obtain ⟨c0, c1, c2, c3, c4, c5, c6, c7, c8⟩ := HT7.out
          go_wp2_with fail
          refine (final_any 0 (some ⟨g, 0, none⟩) 14 14 xs 1 1 90 450 5000 6 true a _ HX7.out).mono ?_
          rw [V.out.2.2.2.2.1, V.out.2.2.2.2.2.2, hmx.out]
          first | rw [if_pos g9] | rw [if_neg (by omega)]
          rintro e w8 ⟨rfl, hb8⟩
          have HT8 := Lib.hid (tenbox_below HT7.out hb8)
          have HX8 := Lib.hid (HX7.out.below hb8)
          have hB8 := below_up' hB7 hb8
          have z8 := hb8.size
          clear hb8 c0 c1 c2 c3 c4 c5 c6 c7 c8
          obtain ⟨c0, c1, c2, c3, c4, c5, c6, c7, c8⟩ := HT8.out
          go_wp2_with fail
          refine (scaled_any 0 (some ⟨g, 0, none⟩) 14 14 xs 1 1 90 450 5000 6 true a 450 _ HX8.out).mono ?_
          rw [V.out.2.2.2.2.1, V.out.2.2.2.2.2.1]
          rintro e w9 ⟨rfl, hb9⟩
          have hB9 := below_up' hB8 hb9
          clear hb9 c0 c1 c2 c3 c4 c5 c6 c7 c8
          go_wp2_with (go_at_call 25; refine (sane36_any _).mono ?_; rintro e w10 ⟨rfl, hb10⟩)
          go_ret
          exact ⟨rfl, below_up' hB9 (by assumption)⟩
      · have hk1 : 1 ≤ k := by omega
        have hck := HCY.out k (by omega)
        have hfk := HFY.out k
        have hxk := HX.out k (by omega)
        obtain ⟨xk, hxk2⟩ : ∃ xk, xs k = xk := ⟨_, rfl⟩
        rw [hxk2] at hck hxk
        obtain ⟨xk0, xk1⟩ := hxk
        have j0 : (0 : Int) ≤ (k : Int) := by omega
        have j1 : (k : Int) < 14 := by omega
        obtain ⟨ys, hys⟩ : ∃ ys : Nat → Int, ys = fun j => if j = k then xk + m else xs j := ⟨_, rfl⟩
        have HYS := Lib.hid (show ∀ j, j < 14 → 50 ≤ ys j ∧ ys j ≤ 405 from fun j hj => by
          have := HX.out j hj
          rw [hys]
          simp only
          split <;> omega)
        have HLE := Lib.hid (grows_facts HXS.out HYS.out (by rw [hys]; simp only; rw [if_neg (by omega)]) d0 d1 (by rw [hys, HKN.out]; simp only; rw [if_pos trivial, hxk2]; omega) x0 x1)
        have hbs : Below g2 w4 (w4.setCell ⟨g2, k, none⟩ (.int .i64 (xk + m))) := (Below.refl g2 w4).setCell (p := ⟨g2, k, none⟩) (Nat.le_refl _) _
        have HIX := Lib.hid (show IxOk (w4.setCell ⟨g2, k, none⟩ (.int .i64 (xk + m))) (some ⟨g, 0, none⟩) 14 14 xs from ⟨by omega, by unfold maxLen; omega, .inr ⟨g, 0, rfl, fun j hj => by rw [Nat.zero_add]; exact (hbs.cell (p := ⟨g, j, none⟩) (by show g < g2; omega)).trans (HCX.out j hj)⟩⟩)
        have HIY := Lib.hid (show IxOk (w4.setCell ⟨g2, k, none⟩ (.int .i64 (xk + m))) (some ⟨g2, 0, none⟩) 14 cap2 ys from ⟨hcp, hcm, .inr ⟨g2, 0, rfl, fun j hj => by
          rw [Nat.zero_add, hys]
          simp only
          by_cases hjk : j = k
          · rw [hjk, if_pos rfl]; exact World.cell?_setCell_same _ _ _ hck
          · rw [if_neg hjk]; exact (World.cell?_setCell_other _ _ _ _ (by intro h; injection h; omega)).trans (HCY.out j hj)⟩⟩)
        have HT5 := Lib.hid (tenbox_set (W' := w4.setCell ⟨g2, k, none⟩ (.int .i64 (xk + m))) HT4.out hbs (by omega))
        have HY5 := Lib.hid (ybox_set HY4.out k (.int .i64 (xk + m)) (show w3.heap.size ≠ g2 by omega))
        have hB5 : Below w.heap.size w (w4.setCell ⟨g2, k, none⟩ (.int .i64 (xk + m))) := hB4.setCell (p := ⟨g2, k, none⟩) (by show w.heap.size ≤ g2; omega) _
        clear hys hxk2
        have v1 := ten_sc HXS.out d0 d1 x0 x1
        have v2 := ten_sc HYS.out d0 d1 x0 x1
        have v3 := ten_sc HXS.out (day := 450) (by omega) (by omega) x0 x1
        obtain ⟨va, hva⟩ : ∃ r, scV 0 14 xs 1 1 90 450 5000 6 true a day = r := ⟨_, rfl⟩
        obtain ⟨vb, hvb⟩ : ∃ r, scV 0 14 ys 1 1 90 450 5000 6 true a day = r := ⟨_, rfl⟩
        obtain ⟨vd, hvd⟩ : ∃ r, scV 0 14 xs 1 1 90 450 5000 6 true a 450 = r := ⟨_, rfl⟩
        have hle : va ≤ vb := by rw [← hva, ← hvb]; exact HLE.out
        have hfn : fnV 0 14 xs 1 1 90 450 5000 6 true a = max vd a := by unfold fnV; rw [if_pos v3.1, hvd]
        have V := Lib.hid (And.intro v1.1 (And.intro hva (And.intro v2.1 (And.intro hvb (And.intro v3.1 (And.intro hvd hfn))))))
        clear v1 v2 v3 hva hvb hvd hfn
        rcases (show a ≤ vd ∨ vd < a by omega) with g9 | g9
        all_goals
          have hmx := Lib.hid (show max vd a = if a ≤ vd then vd else a by split <;> omega)
          go_wp2_with fail
          refine (scaled_any 0 (some ⟨g, 0, none⟩) 14 14 xs 1 1 90 450 5000 6 true a day _ HIX.out).mono ?_
          rw [V.out.1, V.out.2.1]
          rintro e w6 ⟨rfl, hb6⟩
          have HT6 := Lib.hid (tenbox_below HT5.out hb6)
          have HY6 := Lib.hid (ybox_below HY5.out hb6)
          have HX6 := Lib.hid (HIX.out.below hb6)
          have HJ6 := Lib.hid (HIY.out.below hb6)
          have hB6 := below_up' hB5 hb6
          have z6 := hb6.size
          clear hb6 c0 c1 c2 c3 c4 c5 c6 c7 c8 e0 e1
          obtain ⟨c0, c1, c2, c3, c4, c5, c6, c7, c8⟩ := HT6.out
          obtain ⟨e0, e1⟩ := HY6.out
          go_wp2_with fail
          refine (scaled_any 0 (some ⟨g2, 0, none⟩) 14 cap2 ys 1 1 90 450 5000 6 true a day _ HJ6.out).mono ?_
          rw [V.out.2.2.1, V.out.2.2.2.1]
          rintro e w7 ⟨rfl, hb7⟩
          have HT7 := Lib.hid (tenbox_below HT6.out hb7)
          have HX7 := Lib.hid (HX6.out.below hb7)
          have hB7 := below_up' hB6 hb7
          have z7 := hb7.size
          clear hb7 c0 c1 c2 c3 c4 c5 c6 c7 c8 e0 e1
          obtain ⟨c0, c1, c2, c3, c4, c5, c6, c7, c8⟩ := HT7.out
          go_wp2_with fail
          refine (final_any 0 (some ⟨g, 0, none⟩) 14 14 xs 1 1 90 450 5000 6 true a _ HX7.out).mono ?_
          rw [V.out.2.2.2.2.1, V.out.2.2.2.2.2.2, hmx.out]
          first | rw [if_pos g9] | rw [if_neg (by omega)]
          rintro e w8 ⟨rfl, hb8⟩
          have HT8 := Lib.hid (tenbox_below HT7.out hb8)
          have HX8 := Lib.hid (HX7.out.below hb8)
          have hB8 := below_up' hB7 hb8
          have z8 := hb8.size
          clear hb8 c0 c1 c2 c3 c4 c5 c6 c7 c8
          obtain ⟨c0, c1, c2, c3, c4, c5, c6, c7, c8⟩ := HT8.out
          go_wp2_with fail
          refine (scaled_any 0 (some ⟨g, 0, none⟩) 14 14 xs 1 1 90 450 5000 6 true a 450 _ HX8.out).mono ?_
          rw [V.out.2.2.2.2.1, V.out.2.2.2.2.2.1]
          rintro e w9 ⟨rfl, hb9⟩
          have hB9 := below_up' hB8 hb9
          clear hb9 c0 c1 c2 c3 c4 c5 c6 c7 c8
          go_wp2_with (go_at_call 25; refine (sane36_any _).mono ?_; rintro e w10 ⟨rfl, hb10⟩)
          go_ret
          exact ⟨rfl, below_up' hB9 (by assumption)⟩
end Go.Proofs.Ytkbkohkhpmpddaa
