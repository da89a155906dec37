/- IndexChains. -/
import Derived.Test.YtkbkohkhpmpddaaL36Grows
import Derived.Test.YtkbkohkhpmpddaaRefSec
namespace Go.Proofs.Ytkbkohkhpmpddaa
open Go.RowKit
set_option linter.unusedVariables false

set_option maxHeartbeats 4000000 in
set_option maxRecDepth 100000 in
theorem chains_walk (a0 : Option Addr) (len0 cap0 : Nat) (a : Int) (w : World) (h1 : len0 ≤ cap0) (h2 : cap0 ≤ maxLen) (hz : len0 = 0 ∨ ∃ b off, a0 = some ⟨b, off, none⟩ ∧ ∀ i, i < len0 → ∃ z : Int, w.cell? ⟨b, off + i, none⟩ = some (.int .i64 z)) (x0 : 0 ≤ a) (x1 : a ≤ 65535) :
    Calls Try.prog 9 #[.slice a0 len0 cap0, .int .u16 a] w fun e w' => e = .returned (.bool true) ∧ Below w.heap.size w w' := by
  go_enter Try.func9, Try.ntmps9
  go_wp2_with fail
  refine (new_any a0 len0 cap0 w h1 h2 hz).mono ?_
  rintro e w1 ⟨sb, rfl, hsb, hS1, hB1⟩
  clear hz
  go_wp2_with fail
  refine (tenth_any _).mono ?_
  rintro e w2 ⟨g, rfl, hg0, hg1, hc2, hf2, hb2⟩
  have hl1 := srcOk_lt hS1
  have hS2 := srcOk_below hS1 hb2 hl1
  have hB2 : Below w.heap.size w w2 := hB1.trans (hb2.mono hB1.size)
  have z1 := hB1.size
  have z2 := hb2.size
  clear hB1 hb2 hS1
  go_wp2
  have F0 := finv_start hS2 hc2 hf2 hg1
  have hl2 := srcOk_lt hS2
  have hsg : sb < g := by omega
  go_loopw [30] (fun iv wr => ∃ k : Nat, k ≤ 14 ∧ iv = .int .i64 k ∧ FInv sb g k (tenWorld w2 g) wr) (fun iv _ => 14 - (intOf iv).toNat)
  case atStart => exact ⟨0, by omega, rfl, F0⟩
  case round =>
    obtain ⟨k, hk, rfl, hF⟩ := hrel
    have hbx := ten_boxes hF.keep hl2 hg1
    have zr := hF.keep.size
    rw [tenWorld_size] at zr
    have HF := Lib.hid hF
    clear hF F0 hc2 hf2
    by_cases hlt : k < 14
    · obtain ⟨c0, c1, c2, c3, c4, c5, c6, c7, c8⟩ := hbx
      obtain ⟨u, hu, _⟩ := HF.out.cells k hlt
      have fu := HF.out.frz k
      have j0 : (0 : Int) ≤ (k : Int) := by omega
      have j1 : (k : Int) < 14 := by omega
      clear c0 c1 c2 c3 c4 c5 c6 c7
      go_wp2_with fail
      go_region_held3 (fun w' => w'.cell? ⟨w2.heap.size + 1, 1, none⟩ = some (.slice (some ⟨g, 0, none⟩) 14 14)) (first | exact hG7.cell c8 (by simp; omega) | exact (World.cell?_setCell_other _ _ _ _ (by intro h; injection h; omega)).trans (hG7.cell c8 (by simp; omega)) | go_keep)
        (first | (go_at_call 22; refine (range_any sb 50 150 _ ?_ (by decide) (by decide) (by decide)).mono ?_; exact srcOk_drewN HF.out.src 1; rintro e w7 ⟨v, ⟨v0, v1⟩, rfl, hS7, hG7'⟩; have hG7 := grownBy_undrew hG7'; have hu7 := hG7.cell hu (by simp; omega); have fu7 := (World.frozen?_of_block (a := ⟨g, k, none⟩) (hG7.block g (by omega) (by simp; omega))).trans fu))
      all_goals
        have HN := Lib.hid (finv_step HF.out hsg hlt hG7 hS7 v0 v1)
        go_wp2
        go_roundw
        case rel => exact ⟨k + 1, by omega, by go_num, HN.out⟩
        case measure => simp [intOf]; omega
    · have hk14 : k = 14 := by omega
      subst hk14
      obtain ⟨hc, hx⟩ := finv_end HF.out
      have HX := Lib.hid hx
      have HC := Lib.hid hc
      have HS := Lib.hid HF.out.src
      have hBr : Below w.heap.size w wr := (hB2.trans ((tenWorld_below w2 g).mono (Nat.le_trans z1 z2))).trans (HF.out.keep.below hsb (by omega) (by rw [tenWorld_size]; omega))
      obtain ⟨c0, c1, c2, c3, c4, c5, c6, c7, c8⟩ := hbx
      clear hc hx
      have hbox : wr.cell? ⟨w2.heap.size, 0, none⟩ = some (.int .i64 1) ∧ wr.cell? ⟨w2.heap.size, 1, none⟩ = some (.int .i64 1) ∧ wr.cell? ⟨w2.heap.size, 2, none⟩ = some (.int .i64 90) ∧ wr.cell? ⟨w2.heap.size, 3, none⟩ = some (.int .i64 450) ∧ wr.cell? ⟨w2.heap.size, 4, none⟩ = some (.int .i64 5000) ∧ wr.cell? ⟨w2.heap.size, 5, none⟩ = some (.int .i64 6) ∧ wr.cell? ⟨w2.heap.size, 6, none⟩ = some (.bool true) ∧ wr.cell? ⟨w2.heap.size + 1, 0, none⟩ = some (.int .i64 0) ∧ wr.cell? ⟨w2.heap.size + 1, 1, none⟩ = some (.slice (some ⟨g, 0, none⟩) 14 14) := ⟨c0, c1, c2, c3, c4, c5, c6, c7, c8⟩
      have HBX := Lib.hid hbox
      clear hbox c0 c1 c2 c3 c4 c5 c6 c7
      obtain ⟨xs, hxs⟩ : ∃ xs : Nat → Int, xs = readI wr g := ⟨_, rfl⟩
      rw [← hxs] at HX HC
      clear hxs
      go_wp2_with fail
      refine (range_any sb 90 450 _ HS.out (by decide) (by decide) (by decide)).mono ?_
      rintro e w4 ⟨day, ⟨d0, d1⟩, rfl, hS4, hG4⟩
      have z4 := hG4.size
      have hB4 : Below w.heap.size w w4 := hBr.trans (below_of_grown hG4 hsb (by omega))
      have HT4 := Lib.hid (tenbox_grown HBX.out hG4 hl2)
      have HCX := Lib.hid (show ∀ j, j < 14 → w4.cell? ⟨g, j, none⟩ = some (.int .i64 (xs j)) from fun j hj => hG4.cell (HC.out j hj) (by simp; omega))
      have HXS := Lib.hid (show ∀ j, j < 14 → 50 ≤ xs j ∧ xs j ≤ 405 from fun j hj => by have := HX.out j hj; omega)
      have HIX := Lib.hid (show IxOk w4 (some ⟨g, 0, none⟩) 14 14 xs from ⟨by omega, by unfold maxLen; omega, .inr ⟨g, 0, rfl, fun j hj => by rw [Nat.zero_add]; exact HCX.out j hj⟩⟩)
      obtain ⟨k, hk, hk12⟩ : ∃ k : Nat, day / 30 = (k : Int) + 3 ∧ k ≤ 12 := ⟨(day / 30 - 3).toNat, by omega, by omega⟩
      have hkn : (day / 30 - 3).toNat = k := by omega
      have v1 := ten_sc HXS.out (day := 90) (by omega) (by omega) x0 x1
      have v2 := ten_sc HXS.out d0 d1 x0 x1
      have v3 := ten_rt HXS.out d0 d1
      have v4 := ten_first HXS.out x0 x1
      obtain ⟨vb, hvb⟩ : ∃ r, scV 0 14 xs 1 1 90 450 5000 6 true a day = r := ⟨_, rfl⟩
      have hcc : ccE 1 1 90 450 5000 6 vb = 0 := ccE_of ten_sec (by rw [← hvb]; exact v2.2.2.1) (by rw [← hvb]; have := v2.2.2.2; omega)
      obtain ⟨vc, hvc⟩ : ∃ r, cpN 1 1 90 450 5000 6 vb = r := ⟨_, rfl⟩
      have hic : icV 0 14 xs 1 1 90 450 5000 6 true a day = vc ∧ icE 0 14 xs 1 1 90 450 5000 6 true a day = 0 := by
        unfold icV icE
        rw [if_pos v2.1, if_pos v2.1, hvb, hvc]
        exact ⟨rfl, hcc⟩
      rw [hkn] at v3
      obtain ⟨xk, hxk⟩ : ∃ r, xs k = r := ⟨_, rfl⟩
      obtain ⟨xz, hxz⟩ : ∃ r, xs 0 = r := ⟨_, rfl⟩
      rw [hxk, hxz] at v3
      have V := Lib.hid (And.intro v1.1 (And.intro v4 (And.intro v2.1 (And.intro hvb (And.intro hic (And.intro hcc (And.intro hvc v3)))))))
      have HCK := Lib.hid (show w4.cell? ⟨g, k, none⟩ = some (.int .i64 xk) by rw [← hxk]; exact HCX.out k (by omega))
      have HCZ := Lib.hid (show w4.cell? ⟨g, 0, none⟩ = some (.int .i64 xz) by rw [← hxz]; exact HCX.out 0 (by omega))
      have hg4 : g < w4.heap.size := by omega
      obtain ⟨c0, c1, c2, c3, c4, c5, c6, c7, c8⟩ := HT4.out
      clear hG4 hBr hS2 hB2 hkn v1 v2 v3 v4 hvb hcc hvc hic hxk hxz hk12
      go_wp2_with fail
      refine (scaled_any 0 (some ⟨g, 0, none⟩) 14 14 xs 1 1 90 450 5000 6 true a 90 _ HIX.out).mono ?_
      rw [V.out.1, V.out.2.1]
      rintro e w5 ⟨rfl, hb5⟩
      have HT5 := Lib.hid (tenbox_below HT4.out hb5)
      have HX5 := Lib.hid (HIX.out.below hb5)
      have HC5 := Lib.hid (And.intro ((hb5.cell (p := ⟨g, k, none⟩) hg4).trans HCK.out) ((hb5.cell (p := ⟨g, 0, none⟩) hg4).trans HCZ.out))
      have hB5 := below_up' hB4 hb5
      have z5 := hb5.size
      clear hb5 c0 c1 c2 c3 c4 c5 c6 c7 c8
      obtain ⟨c0, c1, c2, c3, c4, c5, c6, c7, c8⟩ := HT5.out
      go_wp2_with fail
      refine (scaled_any 0 (some ⟨g, 0, none⟩) 14 14 xs 1 1 90 450 5000 6 true a day _ HX5.out).mono ?_
      rw [V.out.2.2.1, V.out.2.2.2.1]
      rintro e w6 ⟨rfl, hb6⟩
      have HT6 := Lib.hid (tenbox_below HT5.out hb6)
      have HX6 := Lib.hid (HX5.out.below hb6)
      have HC6 := Lib.hid (And.intro ((hb6.cell (p := ⟨g, k, none⟩) (by show g < w5.heap.size; omega)).trans HC5.out.1) ((hb6.cell (p := ⟨g, 0, none⟩) (by show g < w5.heap.size; omega)).trans HC5.out.2))
      have hB6 := below_up' hB5 hb6
      have z6 := hb6.size
      clear hb6 c0 c1 c2 c3 c4 c5 c6 c7 c8
      obtain ⟨c0, c1, c2, c3, c4, c5, c6, c7, c8⟩ := HT6.out
      go_wp2_with fail
      refine (idxcoupon_any 0 (some ⟨g, 0, none⟩) 14 14 xs 1 1 90 450 5000 6 true a day _ HX6.out).mono ?_
      rw [V.out.2.2.2.2.1.1, V.out.2.2.2.2.1.2]
      rintro e w7 ⟨rfl, hb7⟩
      have HT7 := Lib.hid (tenbox_below HT6.out hb7)
      have HX7 := Lib.hid (HX6.out.below hb7)
      have HC7 := Lib.hid (And.intro ((hb7.cell (p := ⟨g, k, none⟩) (by show g < w6.heap.size; omega)).trans HC6.out.1) ((hb7.cell (p := ⟨g, 0, none⟩) (by show g < w6.heap.size; omega)).trans HC6.out.2))
      have hB7 := below_up' hB6 hb7
      have z7 := hb7.size
      clear hb7 c0 c1 c2 c3 c4 c5 c6 c7 c8
      obtain ⟨c0, c1, c2, c3, c4, c5, c6, c7, c8⟩ := HT7.out
      go_wp2_with fail
      refine (r34coupon_any 1 1 90 450 5000 6 true vb _).mono ?_
      rw [V.out.2.2.2.2.2.1, V.out.2.2.2.2.2.2.1]
      rintro e w8 ⟨rfl, hb8⟩
      have HT8 := Lib.hid (tenbox_below HT7.out hb8)
      have HX8 := Lib.hid (HX7.out.below hb8)
      have HC8 := Lib.hid (And.intro ((hb8.cell (p := ⟨g, k, none⟩) (by show g < w7.heap.size; omega)).trans HC7.out.1) ((hb8.cell (p := ⟨g, 0, none⟩) (by show g < w7.heap.size; omega)).trans HC7.out.2))
      have hB8 := below_up' hB7 hb8
      have z8 := hb8.size
      clear hb8 c0 c1 c2 c3 c4 c5 c6 c7 c8
      obtain ⟨c0, c1, c2, c3, c4, c5, c6, c7, c8⟩ := HT8.out
      go_wp2_with fail
      refine (ratio_any 0 (some ⟨g, 0, none⟩) 14 14 xs 1 1 90 450 5000 6 true day _ HX8.out).mono ?_
      rw [V.out.2.2.2.2.2.2.2.1, V.out.2.2.2.2.2.2.2.2.1, V.out.2.2.2.2.2.2.2.2.2]
      rintro e w9 ⟨rfl, hb9⟩
      have HT9 := Lib.hid (tenbox_below HT8.out hb9)
      have ck := (hb9.cell (p := ⟨g, k, none⟩) (by show g < w8.heap.size; omega)).trans HC8.out.1
      have cz := (hb9.cell (p := ⟨g, 0, none⟩) (by show g < w8.heap.size; omega)).trans HC8.out.2
      have hB9 := below_up' hB8 hb9
      clear hb9 c0 c1 c2 c3 c4 c5 c6 c7 c8
      obtain ⟨c0, c1, c2, c3, c4, c5, c6, c7, c8⟩ := HT9.out
      go_wp2_with (go_at_call 25; refine (sane36_any _).mono ?_; rintro e w10 ⟨rfl, hb10⟩)
      go_ret
      exact ⟨rfl, below_up' hB9 (by assumption)⟩
end Go.Proofs.Ytkbkohkhpmpddaa
