/- Src.Register: a right register. Printed by wip/gen/sreg.py. -/
import Derived.Test.YtjfngogfiafipaaZSrcAdd
namespace Go.Proofs.Ytjfngogfiafipaa
open Go.RowKit
set_option linter.unusedVariables false
set_option linter.unusedSimpArgs false
set_option maxHeartbeats 8000000 in
set_option maxRecDepth 100000 in
theorem sreg_any (sb most : Nat) (w : World) (hs : SrcOk w sb) (hm : most ≤ 100) :
    Calls Try.prog 12 #[.pointer (some ⟨sb, 0, none⟩), .int .i64 most] w (RegW most w sb) := by
  have hlt := srcOk_lt hs
  go_enter Try.func12, Try.ntmps12
  go_wp2
  obtain ⟨W0, hW0⟩ : ∃ W, W = (w.alloc (.cells #[.slice none 0 0, .slice none 0 0, .slice none 0 0] 29)).alloc (.cells #[.slice none 0 0, .slice none 0 0, .slice none 0 0] 29) := ⟨_, rfl⟩
  have hg0 : w.grownBy W0 (some sb) := by rw [hW0]; exact grownBy_trans (World.grownBy_alloc _ _ _) (World.grownBy_alloc _ _ _)
  have hS0 : SrcOk W0 sb := by rw [hW0]; exact srcOk_alloc (srcOk_alloc hs _) _
  have hX0 : W0.heap[w.heap.size]? = some (.cells #[.slice none 0 0, .slice none 0 0, .slice none 0 0] 29 (0, 0)) := by rw [hW0]; exact (heap_alloc_old _ _ (by simp)).trans (heap_alloc_new w _)
  have hY0 : W0.heap[w.heap.size + 1]? = some (.cells #[.slice none 0 0, .slice none 0 0, .slice none 0 0] 29 (0, 0)) := by rw [hW0]; exact heap_at (by simp)
  have hZ0 : W0.heap.size = w.heap.size + 2 := by rw [hW0]; simp
  have HG0 := Lib.hid hg0
  have HS0 := Lib.hid hS0
  have HX0 := Lib.hid hX0
  have HY0 := Lib.hid hY0
  clear hg0 hS0 hX0 hY0 hs
  go_loopw [7] (fun iv wr => ∃ (k : Int) (R : Reg) (a0 a1 a2 : Option Addr) (n0 c0 n1 c1 n2 c2 : Nat), iv = .int .i64 k ∧ (1 ≤ k ∧ k ≤ 4) ∧ AddedOk R k ∧ wr.heap[w.heap.size]? = some (.cells #[.slice none 0 0, .slice none 0 0, .slice none 0 0] 29 (0, 0)) ∧ wr.heap[w.heap.size + 1]? = some (.cells #[.slice a0 n0 c0, .slice a1 n1 c1, .slice a2 n2 c2] 29 (0, 0)) ∧ RgIn (fun b => w.heap.size + 2 ≤ b) wr (.slice a0 n0 c0) (.slice a1 n1 c1) (.slice a2 n2 c2) R ∧ (Value.slice a0 n0 c0 = .slice none 0 0 ∨ 0 < R.secs.length) ∧ SrcOk wr sb ∧ w.grownBy wr (some sb)) (fun iv _ => (4 - intOf iv).toNat)
  case atStart => exact ⟨1, ⟨[], [], []⟩, none, none, none, 0, 0, 0, 0, 0, 0, rfl, by omega, ⟨RgOk.nil, rfl, by simp⟩, by rw [← hW0]; exact HX0.out, by rw [← hW0]; exact HY0.out, rgIn_nil _ _, .inl rfl, by rw [← hW0]; exact HS0.out, by rw [← hW0]; exact HG0.out⟩
  case round =>
    obtain ⟨k, R, a0, a1, a2, n0, c0, n1, c1, n2, c2, rfl, hk, hok, hX, hY, hR, hnz, hSr, hGr⟩ := hrel
    have hltr := srcOk_lt hSr
    go_wp2_with fail
    refine (range_any sb 1 3 _ hSr (by decide) (by decide) (by decide)).mono ?_
    rintro e w1 ⟨v, hv, rfl, hS1, hG1⟩
    have hX1 : w1.heap[w.heap.size]? = _ := (hG1.block _ (World.block_lt_of_cell? wr ⟨w.heap.size, 0, none⟩ (cell_heap (i := 0) hX rfl)) (by simp; omega)).trans hX
    have hY1 : w1.heap[w.heap.size + 1]? = _ := (hG1.block _ (World.block_lt_of_cell? wr ⟨w.heap.size + 1, 0, none⟩ (cell_heap (i := 0) hY rfl)) (by simp; omega)).trans hY
    have hR1 := hR.grown hG1 (fun b hb => by omega)
    have hg1 : w.grownBy w1 (some sb) := grownBy_trans hGr hG1
    have HX1 := Lib.hid hX1
    have HY1 := Lib.hid hY1
    have HR1 := Lib.hid hR1
    have HG1 := Lib.hid hg1
    have HOK := Lib.hid hok
    have HNZ := Lib.hid hnz
    clear hX hY hR hGr hG1 hX1 hY1 hR1 hg1 hok hnz hSr hltr
    have hzB : w.heap.size + 1 < w1.heap.size := World.block_lt_of_cell? w1 ⟨w.heap.size + 1, 0, none⟩ (cell_heap (i := 0) HY1.out rfl)
    have hsb1 : sb < w1.heap.size := by omega
    have HS1 := Lib.hid hS1
    clear hS1
    have y0 := cell_heap (i := 0) HY1.out rfl
    have y1 := cell_heap (i := 1) HY1.out rfl
    have y2 := cell_heap (i := 2) HY1.out rfl
    have yk0 : (w1.alloc (.cells #[.slice none 0 0, .slice none 0 0, .slice none 0 0] 29 (0, 0))).cell? ⟨w.heap.size + 1, 0, none⟩ = some (.slice a0 n0 c0) := keepA (w := w1) y0
    have yk1 : (w1.alloc (.cells #[.slice none 0 0, .slice none 0 0, .slice none 0 0] 29 (0, 0))).cell? ⟨w.heap.size + 1, 1, none⟩ = some (.slice a1 n1 c1) := keepA (w := w1) y1
    have yk2 : (w1.alloc (.cells #[.slice none 0 0, .slice none 0 0, .slice none 0 0] 29 (0, 0))).cell? ⟨w.heap.size + 1, 2, none⟩ = some (.slice a2 n2 c2) := keepA (w := w1) y2
    by_cases hkv : k ≤ v
    · go_upto_region 5 with fail
      go_cut [8, 9] (fun s8 s9 wx => ∃ (g : Nat) (un is ma ra ev : Int) (ix : Bool) (b0 b1 b2 : Option Addr) (m0 d0 m1 d1 m2 d2 : Nat), s8 = .pointer (some ⟨g, 0, none⟩) ∧ s9 = .int .i64 (raE R ⟨k, un, is, ma, ra, ev, ix⟩) ∧ SecLike un is ma ra ev ∧ AddAt w sb w1 g (raR R ⟨k, un, is, ma, ra, ev, ix⟩) b0 b1 b2 m0 d0 m1 d1 m2 d2 wx)
      case first =>
        go_region_with (first | (go_at_call 27; refine (srcsec_any sb _ _ ?_).mono ?_; (· first | exact srcOk_drewN HS1.out 1 | exact srcOk_drewN (srcOk_alloc HS1.out _) 1); rintro e w2 ⟨un, is, ma, ra, ev, ix, hl, rfl, hS2, hG2⟩; have HL := Lib.hid hl; have HS2 := Lib.hid hS2; have hK : w1.grownBy w2 (some sb) := (by first | exact grownBy_undrew hG2 | exact grownBy_trans (World.grownBy_alloc _ _ _) (grownBy_undrew hG2)); have HK := Lib.hid hK; have hy2 := (hK.block _ hzB (by simp; omega)).trans HY1.out; have c0' := cell_heap (i := 0) hy2 rfl; have c1' := cell_heap (i := 1) hy2 rfl; have c2' := cell_heap (i := 2) hy2 rfl; have ck0 : (w2.alloc (.cells #[.slice none 0 0, .slice none 0 0, .slice none 0 0] 29 (0, 0))).cell? ⟨w.heap.size + 1, 0, none⟩ = some (.slice a0 n0 c0) := keepA (w := w2) c0'; have ck1 : (w2.alloc (.cells #[.slice none 0 0, .slice none 0 0, .slice none 0 0] 29 (0, 0))).cell? ⟨w.heap.size + 1, 1, none⟩ = some (.slice a1 n1 c1) := keepA (w := w2) c1'; have ck2 : (w2.alloc (.cells #[.slice none 0 0, .slice none 0 0, .slice none 0 0] 29 (0, 0))).cell? ⟨w.heap.size + 1, 2, none⟩ = some (.slice a2 n2 c2) := keepA (w := w2) c2'; (try (have hbq := box_grown hG2 hsb1; have hbl := hbq.2; have HBX := Lib.hid hbq.1; clear hbq)); clear hl hS2 hG2 hK hy2) | (go_at_call 33; refine (add_at (w := w) (w1 := w1) HR1.out (by first | exact HK.out | exact grownBy_trans HK.out (World.grownBy_alloc _ _ _)) hlt HOK.out.ok HNZ.out).mono ?_; rintro e w3 hg; obtain ⟨b0, m0, d0, b1, m1, d1, b2, m2, d2, rfl, hq3, hb3⟩ := hg.shape; have HQ3 := Lib.hid hq3; have HB3 := Lib.hid hb3; (try (have hbx3 := (hb3.block w1.heap.size hbl).trans HBX.out; have bx0 := cell_heap (i := 0) hbx3 rfl; have bx1 := cell_heap (i := 1) hbx3 rfl; have bx2 := cell_heap (i := 2) hbx3 rfl; have bf0 := frozen_of_row w3 _ 0 _ _ hbx3; have bf1 := frozen_of_row w3 _ 1 _ _ hbx3; have bf2 := frozen_of_row w3 _ 2 _ _ hbx3; clear hbx3)); (try (have hbx3 := box_below hb3; have bx0 := cell_heap (i := 0) hbx3 rfl; have bx1 := cell_heap (i := 1) hbx3 rfl; have bx2 := cell_heap (i := 2) hbx3 rfl; have bf0 := frozen_of_row w3 _ 0 _ _ hbx3; have bf1 := frozen_of_row w3 _ 1 _ _ hbx3; have bf2 := frozen_of_row w3 _ 2 _ _ hbx3; clear hbx3)); clear hg hq3 hb3))
        all_goals (go_wp2_with fail; go_meet)
        all_goals (refine ⟨_, un, is, ma, ra, ev, ix, b0, b1, b2, m0, d0, m1, d1, m2, d2, rfl, rfl, HL.out, ?_⟩; first | exact added_new hlt (by omega) HK.out HS2.out HB3.out HQ3.out | exact added_set hlt (by omega) HK.out HS2.out HB3.out HQ3.out (Nat.le_refl _) hbl HBX.out | exact added_set hlt (by omega) (grownBy_trans HK.out (World.grownBy_alloc _ _ _)) (srcOk_alloc HS2.out _) HB3.out HQ3.out HK.out.size (by simp) (heap_alloc_new w2 _))
      case rest =>
        obtain ⟨g, un, is, ma, ra, ev, ix, b0, b1, b2, m0, d0, m1, d1, m2, d2, rfl, rfl, hl, hA⟩ := hcut
        obtain ⟨E, hE⟩ : ∃ E, raE R ⟨k, un, is, ma, ra, ev, ix⟩ = E := ⟨_, rfl⟩
        rw [hE]
        have HE := Lib.hid hE
        have HA := Lib.hid hA
        have HL := Lib.hid hl
        have gx0 := hA.g0
        have gx1 := hA.g1
        have gx2 := hA.g2
        have hXx := (hA.old _ (by omega) (by omega)).trans HX1.out
        have hYx := (hA.old _ (by omega) (by omega)).trans HY1.out
        have HXX := Lib.hid hXx
        have HYX := Lib.hid hYx
        clear y0 y1 y2 yk0 yk1 yk2
        have y0 := cell_heap (i := 0) hYx rfl
        have y1 := cell_heap (i := 1) hYx rfl
        have y2 := cell_heap (i := 2) hYx rfl
        have yf0 := frozen_of_row wc _ 0 _ _ hYx
        have yf1 := frozen_of_row wc _ 1 _ _ hYx
        have yf2 := frozen_of_row wc _ 2 _ _ hYx
        clear hE hA hl hXx hYx
        by_cases h0 : E = 0
        · subst h0
          have hadd := HOK.out.add hk.1 HL.out HE.out
          have HADD := Lib.hid hadd
          clear hadd
          go_wp2
          have hwk : IntKind.i64.wrap (k + 1) = k + 1 := IntWalk.i64_in _ (by omega)
          go_roundw
          case rel =>
            have e0 := heap_setCell_same wc _ 0 _ _ (.slice b0 m0 d0) HYX.out
            have e1 := heap_setCell_same _ _ 1 _ _ (.slice b1 m1 d1) e0
            have e2 := heap_setCell_same _ _ 2 _ _ (.slice b2 m2 d2) e1
            have hs2 := src_fin (grownBy_trans HG1.out HA.out.gr) HA.out.src (below_set3 wc (show w.heap.size ≤ w.heap.size + 1 by omega) (.slice b0 m0 d0) (.slice b1 m1 d1) (.slice b2 m2 d2)) hlt
            exact ⟨k + 1, _, b0, b1, b2, m0, d0, m1, d1, m2, d2, rfl, by omega, HADD.out.1, ((grownBy_set3 wc (w.heap.size + 1) (.slice b0 m0 d0) (.slice b1 m1 d1) (.slice b2 m2 d2)).block _ (World.block_lt_of_cell? wc ⟨w.heap.size, 0, none⟩ (cell_heap (i := 0) HXX.out rfl)) (by simp)).trans HXX.out, e2, HA.out.rg.set3 (b := w.heap.size + 1) (fun b hb => by omega), .inr HADD.out.2, hs2.1, hs2.2⟩
          case measure => simp [intOf]; omega
        · have g1 : (E == 0) = false := by simpa using h0
          go_wp2
          have hwk : IntKind.i64.wrap (k + 1) = k + 1 := IntWalk.i64_in _ (by omega)
          go_roundw
          case rel => exact ⟨k + 1, R, a0, a1, a2, n0, c0, n1, c1, n2, c2, rfl, by omega, HOK.out.next, HXX.out, HYX.out, HR1.out.grown HA.out.gr (fun b hb => by omega), HNZ.out, HA.out.src, grownBy_trans HG1.out HA.out.gr⟩
          case measure => simp [intOf]; omega
    · have hlike := HOK.out.like hk.2
      have HLIKE := Lib.hid hlike
      have HMS := Lib.hid HOK.out.ms
      clear hlike y0 y1 y2 yk0 yk1 yk2
      have hwm : IntKind.i64.wrap ((most : Int) + 1) = (most : Int) + 1 := IntWalk.i64_in _ (by omega)
      go_wp2_with fail
      refine (n_any sb _ _ HS1.out (by omega)).mono ?_
      rintro e w4 ⟨kk, hkk, rfl, hS4, hG4⟩
      have hX4 : w4.heap[w.heap.size]? = _ := (hG4.block _ (by omega) (by simp; omega)).trans HX1.out
      have hY4 : w4.heap[w.heap.size + 1]? = _ := (hG4.block _ (by omega) (by simp; omega)).trans HY1.out
      have HS4 := Lib.hid hS4
      have HX4 := Lib.hid hX4
      have HY4 := Lib.hid hY4
      have HG4 := Lib.hid (grownBy_trans HG1.out hG4)
      have HR4 := Lib.hid (HR1.out.grown hG4 (fun b hb => by omega))
      clear hS4 hX4 hY4 hG4
      go_wp2
      obtain ⟨W4, hW4⟩ : ∃ W, W = w4 := ⟨_, rfl⟩
      have HW4 := Lib.hid hW4
      go_loopw [10, 11] (fun dv kv wr2 => ∃ (j day : Int) (R : Reg) (a0 a1 a2 : Option Addr) (n0 c0 n1 c1 n2 c2 : Nat), dv = .int .i64 day ∧ kv = .int .i64 j ∧ (0 ≤ j ∧ j ≤ most) ∧ RegLike R day ∧ (R.ms.length : Int) + j ≤ most ∧ day + 130 * j ≤ 130 * most ∧ wr2.heap[w.heap.size]? = some (.cells #[.slice none 0 0, .slice none 0 0, .slice none 0 0] 29 (0, 0)) ∧ wr2.heap[w.heap.size + 1]? = some (.cells #[.slice a0 n0 c0, .slice a1 n1 c1, .slice a2 n2 c2] 29 (0, 0)) ∧ RgIn (fun b => w.heap.size + 2 ≤ b) wr2 (.slice a0 n0 c0) (.slice a1 n1 c1) (.slice a2 n2 c2) R ∧ SrcOk wr2 sb ∧ w.grownBy wr2 (some sb)) (fun _ kv _ => (intOf kv).toNat)
      case atStart => exact ⟨kk, 0, R, a0, a1, a2, n0, c0, n1, c1, n2, c2, rfl, rfl, by omega, HLIKE.out, by rw [HMS.out]; simp; omega, by omega, HX4.out, HY4.out, HR4.out, HS4.out, HG4.out⟩
      case round =>
        clear HOK HNZ HLIKE HMS HR4 HX4 HY4 HG4 HS4 HX1 HY1 HG1 HR1 HS1
        obtain ⟨j, day, R, a0, a1, a2, n0, c0, n1, c1, n2, c2, rfl, rfl, hj, hlike, hml, hdl, hX, hY, hR, hSr, hGr⟩ := hrel
        have hltB : w.heap.size + 1 < wr.heap.size := World.block_lt_of_cell? wr ⟨w.heap.size + 1, 0, none⟩ (cell_heap (i := 0) hY rfl)
        have y0 := cell_heap (i := 0) hY rfl
        have y1 := cell_heap (i := 1) hY rfl
        have y2 := cell_heap (i := 2) hY rfl
        have HX := Lib.hid hX
        have HY := Lib.hid hY
        have HR := Lib.hid hR
        have HS := Lib.hid hSr
        have HG := Lib.hid hGr
        have HLIKE := Lib.hid hlike
        clear hX hY hR hSr hGr hlike
        by_cases hj0 : 0 < j
        · have hd0 := HLIKE.out.day0
          have hlm := HLIKE.out.ok.lm
          go_wp2_with fail
          refine (deal_any (fun b => w.heap.size + 2 ≤ b) sb _ _ _ R day wr HS.out HR.out (by have := HLIKE.out.ok.ls; omega) (by have := HLIKE.out.ok.hl; omega) (by omega) (fun b hb => by omega) (fun b hb => by omega) hd0 (by omega)).mono ?_
          rintro e w5 ⟨us, uh, um, R', day', rfl, hdt, hR', hS5, hG5⟩
          obtain ⟨p0, q0, l0, rfl, -, -, -⟩ := hR'.S.shape
          obtain ⟨p1, q1, l1, rfl, -, -, -⟩ := hR'.H.shape
          obtain ⟨p2, q2, l2, rfl, -, -, -⟩ := hR'.M.shape
          have hdd := HLIKE.out.dealt hdt
          have HDD := Lib.hid hdd
          have hX5 : w5.heap[w.heap.size]? = _ := (hG5.block _ (by omega) (by simp; omega)).trans HX.out
          have hY5 : w5.heap[w.heap.size + 1]? = _ := (hG5.block _ (by omega) (by simp; omega)).trans HY.out
          have HX5 := Lib.hid hX5
          have HY5 := Lib.hid hY5
          have HR5 := Lib.hid hR'
          have HS5 := Lib.hid hS5
          have HG5 := Lib.hid (grownBy_trans HG.out hG5)
          have z5 := hG5.size
          clear y0 y1 y2
          have y0 := cell_heap (i := 0) hY5 rfl
          have y1 := cell_heap (i := 1) hY5 rfl
          have y2 := cell_heap (i := 2) hY5 rfl
          have yf0 := frozen_of_row w5 _ 0 _ _ hY5
          have yf1 := frozen_of_row w5 _ 1 _ _ hY5
          have yf2 := frozen_of_row w5 _ 2 _ _ hY5
          clear hdt hR' hS5 hG5 hX5 hY5 hdd
          have hwj : IntKind.i64.wrap (j - 1) = j - 1 := IntWalk.i64_in _ (by omega)
          go_wp2
          go_roundw
          case rel =>
            have e0 := heap_setCell_same w5 _ 0 _ _ (.slice p0 q0 l0) HY5.out
            have e1 := heap_setCell_same _ _ 1 _ _ (.slice p1 q1 l1) e0
            have e2 := heap_setCell_same _ _ 2 _ _ (.slice p2 q2 l2) e1
            have hs2 := src_fin HG5.out HS5.out (below_set3 w5 (show w.heap.size ≤ w.heap.size + 1 by omega) (.slice p0 q0 l0) (.slice p1 q1 l1) (.slice p2 q2 l2)) hlt
            have h2 := HDD.out.2.1
            have h3 := HDD.out.2.2.1
            exact ⟨j - 1, day', R', p0, p1, p2, q0, l0, q1, l1, q2, l2, rfl, rfl, by omega, HDD.out.1, by omega, by omega, ((grownBy_set3 w5 (w.heap.size + 1) (.slice p0 q0 l0) (.slice p1 q1 l1) (.slice p2 q2 l2)).block _ (by omega) (by simp)).trans HX5.out, e2, HR5.out.set3 (b := w.heap.size + 1) (fun b hb => by omega), hs2.1, hs2.2⟩
          case measure => simp [intOf]; omega
        · have x0 := cell_heap (i := 0) HX.out rfl
          have x1 := cell_heap (i := 1) HX.out rfl
          have x2 := cell_heap (i := 2) HX.out rfl
          have xf0 := frozen_of_row wr _ 0 _ _ HX.out
          have xf1 := frozen_of_row wr _ 1 _ _ HX.out
          have xf2 := frozen_of_row wr _ 2 _ _ HX.out
          have hs2 := src_fin HG.out HS.out (below_set3 wr (Nat.le_refl w.heap.size) (.slice a0 n0 c0) (.slice a1 n1 c1) (.slice a2 n2 c2)) hlt
          have HS2 := Lib.hid hs2
          clear hs2
          go_wp2
          refine bodyPost_ret (v := .tuple #[.agg #[.slice a0 n0 c0, .slice a1 n1 c1, .slice a2 n2 c2], .int .i64 day]) (by simp [results, Try.results12, go_sem, x0, x1, x2]) rfl ⟨_, _, _, R, day, rfl, HLIKE.out, by omega, by omega, HR.out.set3 (b := w.heap.size) (fun b hb => by omega), HS2.out.1, HS2.out.2⟩
end Go.Proofs.Ytjfngogfiafipaa
