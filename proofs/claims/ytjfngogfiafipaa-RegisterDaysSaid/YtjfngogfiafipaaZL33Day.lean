/- RegisterDays: the walk. Printed by wip/gen/l33day.py. -/
import Derived.Test.YtjfngogfiafipaaZL33PlD
namespace Go.Proofs.Ytjfngogfiafipaa
open Go.RowKit
set_option linter.unusedVariables false
set_option linter.unusedSimpArgs false
set_option maxHeartbeats 16000000 in
set_option maxRecDepth 100000 in
theorem days_walk (k0 : Option Addr) (len0 cap0 : Nat) (x : Int) (w : World) (h1 : len0 ≤ cap0) (h2 : cap0 ≤ maxLen) (hz : len0 = 0 ∨ ∃ b off, k0 = some ⟨b, off, none⟩ ∧ ∀ i, i < len0 → ∃ z : Int, w.cell? ⟨b, off + i, none⟩ = some (.int .i64 z)) (hx0 : 0 ≤ x) (hx1 : x ≤ 255) :
    Calls Try.prog 4 #[.slice k0 len0 cap0, .int .u8 x] w fun e w' => e = .returned (.bool true) ∧ Below w.heap.size w w' := by
  go_enter Try.func4, Try.ntmps4
  go_wp2_with fail
  refine (new_any k0 len0 cap0 w h1 h2 hz).mono ?_
  rintro e w1 ⟨sb, rfl, hsb, hS1, hB1⟩
  clear hz
  go_wp2_with fail
  refine (sreg_any sb 10 w1 hS1 (by omega)).mono ?_
  rintro e w2 ⟨vs, vh, vm, R, day, rfl, hlike, hml, hdl, hR, hS2, hG2⟩
  have hB2 : Below w.heap.size w w2 := hB1.trans (below_of_grown hG2 hsb hB1.size)
  have z2 := hG2.size
  obtain ⟨a0, n0, c0, rfl, -, -, -⟩ := hR.S.shape
  obtain ⟨a1, n1, c1, rfl, -, -, -⟩ := hR.H.shape
  obtain ⟨a2, n2, c2, rfl, hn2, -, -⟩ := hR.M.shape
  obtain ⟨i1, hi, hz0, hz1, hz2⟩ := info_parts infoMv
  have hn2b : n2 ≤ 10 := by omega
  have hls : R.secs.length ≤ 1000000 := by have := hlike.ok.ls; omega
  have hlh : R.hs.length ≤ 1000000 := by have := hlike.ok.hl; omega
  have hlm : R.ms.length ≤ 1000000 := by omega
  have HOK := Lib.hid hlike.ok
  have HR2 := Lib.hid hR
  have HB2 := Lib.hid hB2
  have HN2 := Lib.hid hn2
  have hcv : IntKind.i64.wrap x = x := IntWalk.i64_in _ (by omega)
  have hcw : IntKind.i64.wrap (90 + x) = 90 + x := IntWalk.i64_in _ (by omega)
  clear hR hS2 hG2 hB1 hB2 hS1 hlike hn2
  go_wp2
  obtain ⟨W, hW⟩ : ∃ W, W = (w2.alloc (.cells #[.slice a0 n0 c0, .slice a1 n1 c1, .slice a2 n2 c2] 29 (0, 0))).alloc (.cells #[.slice a0 n0 c0, .slice a1 n1 c1, .slice none 0 0] 29 (0, 0)) := ⟨_, rfl⟩
  have hbW : Below w2.heap.size w2 W := by rw [hW]; exact bal (bal brefl _) _
  have zW : W.heap.size = w2.heap.size + 2 := by rw [hW]; simp
  have hr : W.heap[w2.heap.size]? = some (.cells #[.slice a0 n0 c0, .slice a1 n1 c1, .slice a2 n2 c2] 29 (0, 0)) := by rw [hW]; exact (heap_alloc_old _ _ (by simp)).trans (heap_alloc_new w2 _)
  have hc : W.heap[w2.heap.size + 1]? = some (.cells #[.slice a0 n0 c0, .slice a1 n1 c1, .slice none 0 0] 29 (0, 0)) := by rw [hW]; exact heap_at (by simp)
  obtain ⟨kd, hkd⟩ : ∃ kd, 90 + x = kd := ⟨_, rfl⟩
  rw [hkd]
  have HW := Lib.hid hW
  have HBW := Lib.hid hbW
  have HRr := Lib.hid hr
  have HCc := Lib.hid hc
  clear hW hbW hr hc
  go_loopw [27] (fun iv wr => ∃ (j len c : Nat) (p : Option Addr), j ≤ n2 ∧ iv = .int .i64 j ∧ wr.heap[w2.heap.size]? = some (.cells #[.slice a0 n0 c0, .slice a1 n1 c1, .slice a2 n2 c2] 29 (0, 0)) ∧ wr.heap[w2.heap.size + 1]? = some (.cells #[.slice a0 n0 c0, .slice a1 n1 c1, .slice p len c] 29 (0, 0)) ∧ len = (msTo kd (R.ms.take j)).length ∧ wr.ownsRow W.heap.size 36 7 (.slice p len c) len (flatE encMv (msTo kd (R.ms.take j))) ∧ Below w2.heap.size w2 wr ∧ W.heap.size ≤ wr.heap.size) (fun iv _ => n2 - (intOf iv).toNat)
  case atStart => exact ⟨0, 0, 0, none, by omega, rfl, by rw [← HW.out]; exact HRr.out, by rw [← HW.out]; exact HCc.out, by simp [msTo], by simpa [msTo, flatE] using World.ownsRow_nil _ _ _ _, by rw [← HW.out]; exact HBW.out, by rw [← HW.out]; exact Nat.le_refl _⟩
  case round =>
    clear HW HBW HRr HCc
    obtain ⟨j, len, c, p, hj, rfl, hr, hc, hlen, hown, hb, zr⟩ := hrel
    have y0 := cell_heap (i := 0) hr rfl
    have y1 := cell_heap (i := 1) hr rfl
    have y2 := cell_heap (i := 2) hr rfl
    have x0 := cell_heap (i := 0) hc rfl
    have x1 := cell_heap (i := 1) hc rfl
    have x2 := cell_heap (i := 2) hc rfl
    have xf1 := frozen_of_row wr _ 1 _ _ hc
    have zx1 : w2.heap.size < wr.heap.size := by omega
    have zx2 : w2.heap.size + 1 < wr.heap.size := by omega
    have hlb : len ≤ 10 := by have := msTo_len kd (R.ms.take j); rw [List.length_take] at this; omega
    have HR := Lib.hid hr
    have HC := Lib.hid hc
    have HO := Lib.hid hown
    have HB := Lib.hid hb
    have HL := Lib.hid hlen
    clear hr hc hown hb hlen
    by_cases hlt : j < n2
    · obtain ⟨b, off, mn, md, mk, mS, mf, mt, ma, rfl, -, hbb, hM, m0, m1, m2, m3, m4, m5, m6⟩ := (HR2.out.below HB.out).M.mv hlt
      have HT := Lib.hid (take_snocZ hM)
      have hjq : (j : Int) < n2 := by omega
      clear hM
      by_cases hd : md ≤ kd
      · have hms := Lib.hid (show msTo kd (R.ms.take (j + 1)) = msTo kd (R.ms.take j) ++ [⟨mn, md, mk, mS, mf, mt, ma⟩] by rw [HT.out, msTo_snoc, if_pos hd])
        go_wp2_with (at_builtin; go_must (refine wpList_append_own _ rfl _ _ 27 rfl W.heap.size 36 i1 (.agg #[.int .i64 0, .int .i64 0, .int .i64 0, .int .i64 0, .int .i64 0, .int .i64 0, .int .i64 0]) 7 56 Try.underlying27 hi hz0 hz1 hz2 rfl (by decide) _ _ _ rfl ((HO.out.alloc _).alloc _) ⟨_, 0, none⟩ 1 1 (encMv ⟨mn, md, mk, mS, mf, mt, ma⟩) rfl rfl (newsMv _ _ (by simp) mn md mk mS mf mt ma) (oneMv _) (by unfold maxLen; omega) (by omega) (by simp; omega) ?_); intro v5 w5 ho5 hg5 _; have hb5 : Below W.heap.size wr w5 := (((Below.refl _ wr).alloc zr _).alloc (by simp; omega) _).grown hg5 (by simp; omega) (fun q hq => (HO.out.lt q hq).1); have z5 := hb5.size; obtain ⟨p5, c5, rfl⟩ := own_slice0 ho5; have hc5 := (hb5.block (w2.heap.size + 1) (by omega)).trans HC.out; have hr5 := (hb5.block w2.heap.size (by omega)).trans HR.out; have q2 := cell_heap (i := 2) hc5 rfl; have qf2 := frozen_of_row w5 _ 2 _ _ hc5; have HO5 := Lib.hid ho5; have HC5 := Lib.hid hc5; have HR5 := Lib.hid hr5; have HB5 := Lib.hid hb5; clear ho5 hc5 hr5 hb5 hg5)
        go_roundw
        case rel =>
          have e2 := heap_setCell_same w5 _ 2 _ _ (.slice p5 (len + 1) c5) HC5.out
          have zs : (w5.setCell ⟨w2.heap.size + 1, 2, none⟩ (.slice p5 (len + 1) c5)).heap.size = w5.heap.size := by simp [World.setCell]
          exact ⟨j + 1, len + 1, c5, p5, by omega, by go_num, (Below.heap_setCell _ _ _ _ (by simp only; omega)).trans HR5.out, e2, by rw [hms.out, List.length_append, ← HL.out]; rfl, by rw [hms.out, flatE_snoc]; exact own_kept HO5.out (grownBy_setCellZ ..) (by omega), (HB.out.trans (HB5.out.mono (by omega))).trans ((Below.refl _ _).setCell (by simp only; omega) _), by rw [zs]; omega⟩
        case measure => simp [intOf]; omega
      · have hms := Lib.hid (show msTo kd (R.ms.take (j + 1)) = msTo kd (R.ms.take j) by rw [HT.out, msTo_snoc, if_neg hd])
        have hd' : decide (md ≤ kd) = false := decide_eq_false hd
        go_wp2
        go_roundw
        case rel => exact ⟨j + 1, len, c, p, by omega, by go_num, (heap_alloc_old _ _ zx1).trans HR.out, (heap_alloc_old _ _ zx2).trans HC.out, by rw [hms.out]; exact HL.out, by rw [hms.out]; exact HO.out.alloc _, bal HB.out _, by simp; omega⟩
        case measure => simp [intOf]; omega
    · have hall : R.ms.take j = R.ms := take_all (by have := HN2.out; omega)
      have hcut := HOK.out.cut kd
      obtain ⟨Q, hQ⟩ : ∃ Q, rgAt R kd = Q := ⟨_, rfl⟩
      have hrat := rat_any (fun b => b ≠ w2.heap.size + 1) _ _ _ R kd wr (((HR2.out.mono (Q := fun b => b ≠ w2.heap.size + 1) (fun b hb hl => by omega)).below HB.out)) hls hlh hlm (fun b hb => by omega)
      rw [hQ] at hrat hcut
      have hO2 := HO.out
      rw [hall] at hO2
      have hL2 := HL.out
      rw [hall] at hL2
      have HAT := Lib.hid hrat
      have HCUT := Lib.hid hcut
      have HO2 := Lib.hid hO2
      have HL2 := Lib.hid hL2
      clear hQ hrat hcut hO2 hL2 hall
      go_wp2_with fail
      refine HAT.out.mono ?_
      rintro e w6 ⟨v6, rfl, hS6, hb6⟩
      obtain ⟨h0, hn, hc', rfl, -, -, -⟩ := hS6.shape
      have hc6 := (hb6.block _ (by omega)).trans HC.out
      have hr6 := (hb6.block _ (by omega)).trans HR.out
      have z6 := hb6.size
      have e1 := heap_setCell_same w6 _ 1 _ _ (.slice h0 hn hc') hc6
      obtain ⟨W7, hW7⟩ : ∃ W, W = w6.setCell ⟨w2.heap.size + 1, 1, none⟩ (.slice h0 hn hc') := ⟨_, rfl⟩
      have z7 : W7.heap.size = w6.heap.size := by rw [hW7]; simp [World.setCell]
      have hc7 : W7.heap[w2.heap.size + 1]? = some (.cells #[.slice a0 n0 c0, .slice h0 hn hc', .slice p len c] 29 (0, 0)) := by rw [hW7]; exact e1
      have hr7 : W7.heap[w2.heap.size]? = some (.cells #[.slice a0 n0 c0, .slice a1 n1 c1, .slice a2 n2 c2] 29 (0, 0)) := by rw [hW7]; exact (Below.heap_setCell _ _ _ _ (by simp only; omega)).trans hr6
      have g7 : w6.grownBy W7 (some (w2.heap.size + 1)) := by rw [hW7]; exact grownBy_setCellZ ..
      have hB7 : Below w2.heap.size w2 W7 := by rw [hW7]; exact bset (bup HB.out hb6) (by simp only; omega) _
      have hR7 : RgIn (fun b => b ≠ w2.heap.size + 1) W7 (.slice a0 n0 c0) (.slice a1 n1 c1) (.slice a2 n2 c2) R := (HR2.out.mono (Q := fun b => b ≠ w2.heap.size + 1) (fun b hb hl => by omega)).below hB7
      have hO7 := own_kept (ownsRow_belowZ HO2.out hb6) g7 (by omega)
      have hQ7 : RgIn (fun b => b ≠ w2.heap.size + 1) W7 (.slice a0 n0 c0) (.slice h0 hn hc') (.slice p len c) ⟨R.secs, Q, msTo kd R.ms⟩ := ⟨hR7.S, hS6.grown g7 (fun b hb => hb), Sl.own encMv_len hO7 HL2.out.symm (fun b hb => by omega)⟩
      have q0 := cell_heap (i := 0) hc6 rfl
      have q1 := cell_heap (i := 1) hc6 rfl
      have q2 := cell_heap (i := 2) hc6 rfl
      have qf1 := frozen_of_row w6 _ 1 _ _ hc6
      have HW7 := Lib.hid hW7
      have HR7 := Lib.hid hR7
      have HQ7 := Lib.hid hQ7
      have HB7 := Lib.hid hB7
      have HC7 := Lib.hid hc7
      have HRR7 := Lib.hid hr7
      have hlq : Q.length ≤ 1000000 := by have h : Q.length ≤ 800 := HCUT.out.hl; omega
      have hlmq : (msTo kd R.ms).length ≤ 1000000 := by have := msTo_len kd R.ms; omega
      have HCH := Lib.hid (chkE_iff.2 HCUT.out)
      have HLAST := Lib.hid HOK.out.last
      clear hS6 hb6 hc6 hr6 e1 hW7 hc7 hr7 g7 hB7 hR7 hO7 hQ7 y0 y1 y2 x0 x1 x2 xf1
      go_upto_region 13 with fail
      rw [← HW7.out]
      clear q0 q1 q2 qf1
      have u0 := cell_heap (i := 0) HC7.out rfl
      have u1 := cell_heap (i := 1) HC7.out rfl
      have u2 := cell_heap (i := 2) HC7.out rfl
      go_region_with (first | (go_at_call 17; refine (check_any _ _ _ _ ⟨R.secs, Q, msTo kd R.ms⟩ _ (HQ7.out.below (bdr brefl)) hls hlq hlmq).mono ?_; rw [HCH.out]; rintro e w8 ⟨rfl, hb8⟩; have hr8 := (hb8.block w2.heap.size (show w2.heap.size < W7.heap.size by omega)).trans HRR7.out; have z8 : W7.heap.size ≤ w8.heap.size := hb8.size; have v0 := cell_heap (i := 0) hr8 rfl; have v1 := cell_heap (i := 1) hr8 rfl; have v2 := cell_heap (i := 2) hr8 rfl; have HR8 := Lib.hid ((HR7.out.below (bdr brefl)).below hb8); have HB8 := Lib.hid (bup (bdr HB7.out) hb8); have HRR8 := Lib.hid hr8; clear hb8 hr8) | (go_at_call 18; refine (rat_any (fun b => b ≠ w2.heap.size + 1) _ _ _ R 36000 _ HR8.out hls hlh hlm (fun b hb => by omega)).mono ?_; rw [HLAST.out]; rintro e w9 ⟨v9, rfl, hS9, hb9⟩; obtain ⟨s0, sn, sc, rfl, -, -, -⟩ := hS9.shape; have hr9 := (hb9.block w2.heap.size (by omega)).trans HRR8.out; have t1 := cell_heap (i := 1) hr9 rfl; have HS9 := Lib.hid hS9; have HR9 := Lib.hid (HR8.out.below hb9); have HB9 := Lib.hid (bup HB8.out hb9); clear hS9 hb9 hr9) | (go_at_call 19; refine (fhold_any _ _ _ _ R.hs R.hs _ HS9.out HR9.out.H hlh).mono ?_; rw [eqHs_self]; rintro e w10 ⟨rfl, nq, rfl⟩) | (go_at_call 15; refine (sane33_any _).mono ?_; rintro e w11 ⟨rfl, hb11⟩; have HB11 := Lib.hid (bup (below_drewZ HB9.out nq) hb11); clear hb11))
      all_goals (go_wp2; go_ret; exact ⟨rfl, HB2.out.trans (HB11.out.mono HB2.out.size)⟩)
end Go.Proofs.Ytjfngogfiafipaa
