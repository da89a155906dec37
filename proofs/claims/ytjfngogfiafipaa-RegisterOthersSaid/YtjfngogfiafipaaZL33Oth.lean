/- RegisterOthers: the walk. Printed by wip/gen/l33oth.py. -/
import Derived.Test.YtjfngogfiafipaaZL33PlB
namespace Go.Proofs.Ytjfngogfiafipaa
open Go.RowKit
set_option linter.unusedVariables false
set_option linter.unusedSimpArgs false
set_option maxHeartbeats 16000000 in
set_option maxRecDepth 100000 in
theorem others_walk (k0 : Option Addr) (len0 cap0 : Nat) (w : World) (h1 : len0 ≤ cap0) (h2 : cap0 ≤ maxLen) (hz : len0 = 0 ∨ ∃ b off, k0 = some ⟨b, off, none⟩ ∧ ∀ i, i < len0 → ∃ z : Int, w.cell? ⟨b, off + i, none⟩ = some (.int .i64 z)) :
    Calls Try.prog 3 #[.slice k0 len0 cap0] w fun e w' => e = .returned (.bool true) ∧ Below w.heap.size w w' := by
  go_enter Try.func3, Try.ntmps3
  go_wp2_with fail
  refine (new_any k0 len0 cap0 w h1 h2 hz).mono ?_
  rintro e w1 ⟨sb, rfl, hsb, hS1, hB1⟩
  clear hz
  go_wp2_with fail
  refine (sreg_any sb 8 w1 hS1 (by omega)).mono ?_
  rintro e w2 ⟨vs, vh, vm, R, day, rfl, hlike, hml, hdl, hR, hS2, hG2⟩
  have hlt := srcOk_lt hS1
  have hB2 : Below w.heap.size w w2 := hB1.trans (below_of_grown hG2 hsb hB1.size)
  have z2 := hG2.size
  obtain ⟨a0, n0, c0, rfl, -, -, -⟩ := hR.S.shape
  obtain ⟨a1, n1, c1, rfl, -, -, -⟩ := hR.H.shape
  obtain ⟨a2, n2, c2, rfl, hn2, -, -⟩ := hR.M.shape
  have HR2 := Lib.hid hR
  have HLIKE := Lib.hid hlike
  have hls : R.secs.length ≤ 1000000 := by have := hlike.ok.ls; omega
  have hlh : R.hs.length ≤ 1000000 := by have := hlike.ok.hl; omega
  have hlm : R.ms.length ≤ 1000000 := by omega
  have hd0 := hlike.day0
  clear hR hG2 hB1 hS1 hlike
  go_wp2_with fail
  refine (deal_any (fun b => w1.heap.size ≤ b) sb _ _ _ R day _ (srcOk_alloc hS2 _) ((HR2.out.mono (fun b hb _ => by omega)).below (bal brefl _)) hls hlh hlm (fun b hb => by simp at hb; omega) (fun b hb => by omega) hd0 (by omega)).mono ?_
  rintro e w3 ⟨us, uh, um, X, day', rfl, hdt, hX, hS3, hG3⟩
  obtain ⟨p0, q0, l0, rfl, -, -, -⟩ := hX.S.shape
  obtain ⟨p1, q1, l1, rfl, -, -, -⟩ := hX.H.shape
  obtain ⟨p2, q2, l2, rfl, hq2, -, -⟩ := hX.M.shape
  have hr3 : w3.heap[w2.heap.size]? = some (.cells #[.slice a0 n0 c0, .slice a1 n1 c1, .slice a2 n2 c2] 29 (0, 0)) := (hG3.block _ (by simp) (by simp; omega)).trans (heap_alloc_new w2 _)
  have hR3 : RgIn (fun _ => True) w3 (.slice a0 n0 c0) (.slice a1 n1 c1) (.slice a2 n2 c2) R := ((HR2.out.below (bal brefl _)).grown hG3 (fun b hb => by omega)).any
  have hB3 : Below w.heap.size w w3 := (hB2.alloc (by have := hB2.size; omega) _).trans (below_of_grown hG3 hsb (by have := hB2.size; simp; omega))
  have z3 : w2.heap.size < w3.heap.size := by have := hG3.size; simp at this; omega
  have hdd := HLIKE.out.dealt hdt
  have hX3 := hX.any
  have b0 := cell_heap (i := 0) hr3 rfl
  have b1 := cell_heap (i := 1) hr3 rfl
  have b2 := cell_heap (i := 2) hr3 rfl
  have HX3 := Lib.hid hX3
  have HR3 := Lib.hid hR3
  have HB3 := Lib.hid hB3
  have HDD := Lib.hid hdd
  have HBX := Lib.hid hr3
  have hlsX : X.secs.length ≤ 1000000 := by have := hdd.1.ok.ls; omega
  have hlhX : X.hs.length ≤ 1000000 := by have := hdd.1.ok.hl; omega
  have hlmX : X.ms.length ≤ 1000000 := by have := hdd.1.ok.lm; omega
  clear hX hX3 hR3 hB3 hr3 hS3 hG3 hS2 HR2 hB2 hdd
  rcases hdt with ⟨hXR, -⟩ | ⟨m, -, hk, hE, hXR, -, -, hms, hmf, hmt⟩
  · subst hXR
    obtain rfl : q2 = n2 := by omega
    go_wp2_with fail
    refine (fsame_eq _ _ _ _ _ _ _ _ X _ (HX3.out.below (bal brefl _)) (HR3.out.below (bal brefl _)) hls hlh hlm).mono ?_
    rintro e w4 ⟨rfl, hb4⟩
    have HB4 := Lib.hid (bup (bal HB3.out _) hb4)
    clear hb4
    go_wp2_with fail
    refine (sane33_any _).mono ?_
    rintro e w5 ⟨rfl, hb5⟩
    have HB5 := Lib.hid (bup HB4.out hb5)
    clear hb5
    go_wp2
    go_ret
    exact ⟨rfl, HB5.out⟩
  have hXok := (RgOk.move hE hk).1
  have hXr := rmR_ok hE
  obtain ⟨-, -, hmo⟩ := rmE_zero hE
  have hft := strange_ft (m := numbered R m) hk hmo.st
  have ma0 := hmo.a0
  have ma1 := hmo.a1
  have hHeld := fun i x hx => moved_held hE hk i x hx
  rw [← hXR] at hXok hXr hHeld
  simp only [numbered] at hft ma0 ma1
  have hlast : X.ms[n2]? = some (numbered R m) := by rw [hXr]; simp only; rw [List.getElem?_append_right (by omega)]; simp [hn2]
  have hlen : q2 = n2 + 1 := by rw [← hq2, hXr]; simp [hn2]
  subst hlen
  clear hXr hq2
  obtain ⟨b, off, mn, md, mk, mS, mf, mt, ma, rfl, -, hbb, hL, k0', k1', k2', k3', k4', k5', k6'⟩ := (HX3.out.M).mv (k := n2) (by omega)
  rw [hlast] at hL
  obtain ⟨m0, m1, m2, m3, m4, m5, m6⟩ := m
  simp only [numbered, Option.some.injEq, Mv.mk.injEq] at hL
  obtain ⟨-, rfl, rfl, rfl, rfl, rfl, rfl⟩ := hL
  simp only at hft ma0 ma1 hHeld hms hmf hmt hk
  have HH := Lib.hid hHeld
  have HOK := Lib.hid hXok
  have hchk := Lib.hid (chkE_iff.2 hXok)
  clear hHeld hXok hlast hE hmo hXR
  have hne : ((n2 : Int) + 1 == (n2 : Int)) = false := by simp; omega
  have hsub : (n2 : Int) + 1 - 1 = (n2 : Int) := by omega
  have hwn : IntKind.i64.wrap (n2 : Int) = (n2 : Int) := IntWalk.i64_in _ (by omega)
  have hlt2 : n2 < n2 + 1 := by omega
  go_wp2
  obtain ⟨W, hW⟩ : ∃ W, W = (w3.alloc (.cells #[.slice p0 q0 l0, .slice p1 q1 l1, .slice (some ⟨b, off, none⟩) (n2 + 1) l2] 29 (0, 0))).alloc (.cells #[.int .i64 mn, .int .i64 m1, .int .i64 m2, .int .i64 m3, .int .i64 m4, .int .i64 m5, .int .i64 m6] 36 (0, 0)) := ⟨_, rfl⟩
  have hbW : Below w3.heap.size w3 W := by rw [hW]; exact bal (bal brefl _) _
  have zW : W.heap.size = w3.heap.size + 2 := by rw [hW]; simp
  have hr : W.heap[w2.heap.size]? = some (.cells #[.slice a0 n0 c0, .slice a1 n1 c1, .slice a2 n2 c2] 29 (0, 0)) := (hbW.block _ (by omega)).trans HBX.out
  have hx : W.heap[w3.heap.size]? = some (.cells #[.slice p0 q0 l0, .slice p1 q1 l1, .slice (some ⟨b, off, none⟩) (n2 + 1) l2] 29 (0, 0)) := by rw [hW]; exact (heap_alloc_old _ _ (by simp)).trans (heap_alloc_new w3 _)
  have hm : W.heap[w3.heap.size + 1]? = some (.cells #[.int .i64 mn, .int .i64 m1, .int .i64 m2, .int .i64 m3, .int .i64 m4, .int .i64 m5, .int .i64 m6] 36 (0, 0)) := by rw [hW]; exact heap_at (by simp)
  have HW := Lib.hid hW
  have HBW := Lib.hid hbW
  have HRr := Lib.hid hr
  have HXx := Lib.hid hx
  have HMm := Lib.hid hm
  have HRW := Lib.hid (HR3.out.below hbW)
  have HXW := Lib.hid (HX3.out.below hbW)
  clear hW hbW hr hx hm b0 b1 b2 k0' k1' k2' k3' k4' k5' k6'
  go_loopw [9] (fun iv wr => ∃ i : Int, iv = .int .i64 i ∧ (1 ≤ i ∧ i ≤ 4) ∧ Below W.heap.size W wr) (fun iv _ => (4 - intOf iv).toNat)
  case atStart => exact ⟨1, rfl, by omega, by rw [HW.out]; exact Below.refl _ _⟩
  case round =>
    obtain ⟨i, rfl, hi, hb0⟩ := hrel
    have HB0 := Lib.hid hb0
    clear hb0
    by_cases hi3 : i ≤ 3
    · go_wp2
      go_loopw [10] (fun jv wr => ∃ j : Int, jv = .int .i64 j ∧ (1 ≤ j ∧ j ≤ 5) ∧ Below W.heap.size W wr) (fun jv _ => (5 - intOf jv).toNat)
      case atStart => exact ⟨1, rfl, by omega, HB0.out⟩
      case round =>
        clear HB0
        obtain ⟨j, rfl, hj, hb0⟩ := hrel
        have zr := hb0.size
        have HB0 := Lib.hid hb0
        by_cases hj4 : j ≤ 4
        · have y0 := up_cell (cell_heap (i := 0) ((hb0.block _ (by omega)).trans HRr.out) rfl)
          have y1 := up_cell (cell_heap (i := 1) ((hb0.block _ (by omega)).trans HRr.out) rfl)
          have y2 := up_cell (cell_heap (i := 2) ((hb0.block _ (by omega)).trans HRr.out) rfl)
          have x0 := up_cell (cell_heap (i := 0) ((hb0.block _ (by omega)).trans HXx.out) rfl)
          have x1 := up_cell (cell_heap (i := 1) ((hb0.block _ (by omega)).trans HXx.out) rfl)
          have x2 := up_cell (cell_heap (i := 2) ((hb0.block _ (by omega)).trans HXx.out) rfl)
          obtain ⟨u, hu⟩ : ∃ u, rgHeld R i j = u := ⟨_, rfl⟩
          obtain ⟨p, hp⟩ : ∃ p, rgHeld X i j = p := ⟨_, rfl⟩
          have ubd := held_bd HLIKE.out.ok i j
          have hpu := HH.out i j (by omega)
          rw [hu] at ubd hpu
          rw [hp] at hpu
          have K1 := Lib.hid (fun (W' : World) (hW' : Below wr.heap.size wr W') => (show Calls Try.prog 16 #[.agg #[.slice p0 q0 l0, .slice p1 q1 l1, .slice (some ⟨b, off, none⟩) (n2 + 1) l2], .int .i64 i, .int .i64 j] W' (fun e w' => e = .returned (.int .i64 p) ∧ Below W'.heap.size W' w') by
            have h := rheld_any (fun _ => True) _ _ _ X i j W' ((HXW.out.below hb0).below hW') hlsX hlhX hlmX
            rw [hp] at h
            exact h))
          have K2 := Lib.hid (fun (W' : World) (hW' : Below wr.heap.size wr W') => (show Calls Try.prog 16 #[.agg #[.slice a0 n0 c0, .slice a1 n1 c1, .slice a2 n2 c2], .int .i64 i, .int .i64 j] W' (fun e w' => e = .returned (.int .i64 u) ∧ Below W'.heap.size W' w') by
            have h := rheld_any (fun _ => True) _ _ _ R i j W' ((HRW.out.below hb0).below hW') hls hlh hlm
            rw [hu] at h
            exact h))
          have hmb := (hb0.block _ (by omega)).trans HMm.out
          have HMB := Lib.hid hmb
          have HPU := Lib.hid hpu
          clear hu hp hb0 hmb hpu
          go_upto_region 13 with fail
          (refine wp_region_up (by kernel_rfl) (by kernel_rfl) ?_); (repeat (go_big_quiet_step ((first | (go_at_call 16; (with_reducible refine (K1.out _ (up_prop _)).mono ?_); exact fun _ _ hh => ⟨hh.1, ⟨_, bup (Subtype.property _) hh.2⟩, rfl⟩) | (go_at_call 16; (with_reducible refine (K2.out _ (up_prop _)).mono ?_); exact fun _ _ hh => ⟨hh.1, ⟨_, bup (Subtype.property _) hh.2⟩, rfl⟩))))); (refine wpQuiet_nil ?_); (rintro _ ⟨⟨w4, hb4⟩, rfl⟩)
          have hm4 := (hb4.block _ (by omega)).trans HMB.out
          have g3 := cell_heap (i := 3) hm4 rfl
          have g4 := cell_heap (i := 4) hm4 rfl
          have g5 := cell_heap (i := 5) hm4 rfl
          have g6 := cell_heap (i := 6) hm4 rfl
          have HB4 := Lib.hid (bup HB0.out hb4)
          clear y0 y1 y2 x0 x1 x2 hm4 hb4 zr
          by_cases e1 : i = m3
          · by_cases e2 : j = m4
            · have hd : p = u - m6 := by have h := HPU.out; rw [if_pos ⟨e1.symm, e2.symm⟩, if_neg (by omega)] at h; omega
              subst hd
              have hw1 : IntKind.i64.wrap (u - m6 - u) = -m6 := by rw [show u - m6 - u = -m6 by omega]; exact IntWalk.i64_in _ (by omega)
              have hw2 : IntKind.i64.wrap (u - (u - m6)) = m6 := by rw [show u - (u - m6) = m6 by omega]; exact IntWalk.i64_in _ (by omega)
              have q1 : (-m6 == m6) = false := by simp; omega
              have q2 : ¬ (-m6 = m6) := by omega
              have q3 : ¬ (u - m6 = u) := by omega
              have q4 : (u - m6 == u) = false := by simp; omega
              subst e1 e2
              go_wp2
              go_roundw
              case rel => exact ⟨j + 1, by go_num, by omega, HB4.out⟩
              case measure => simp [intOf]; omega
            · have q5 : (j == m4) = false := by simpa using e2
              by_cases e3 : j = m5
              · have hd : p = u + m6 := by have h := HPU.out; rw [if_neg (by omega), if_pos ⟨e1.symm, e3.symm⟩] at h; omega
                subst hd
                have hw1 : IntKind.i64.wrap (u + m6 - u) = m6 := by rw [show u + m6 - u = m6 by omega]; exact IntWalk.i64_in _ (by omega)
                have q3 : ¬ (u + m6 = u) := by omega
                have q4 : (u + m6 == u) = false := by simp; omega
                subst e1 e3
                go_wp2
                go_roundw
                case rel => exact ⟨j + 1, by go_num, by omega, HB4.out⟩
                case measure => simp [intOf]; omega
              · have hd : p = u := by have h := HPU.out; rw [if_neg (by omega), if_neg (by omega)] at h; omega
                subst hd
                have q6 : (j == m5) = false := by simpa using e3
                subst e1
                go_wp2
                go_roundw
                case rel => exact ⟨j + 1, by go_num, by omega, HB4.out⟩
                case measure => simp [intOf]; omega
          · have hd : p = u := by have h := HPU.out; rw [if_neg (by omega), if_neg (by omega)] at h; omega
            subst hd
            have q6 : (i == m3) = false := by simpa using e1
            go_wp2
            go_roundw
            case rel => exact ⟨j + 1, by go_num, by omega, HB4.out⟩
            case measure => simp [intOf]; omega
        · clear hb0
          go_wp2
          go_roundw
          case rel => exact ⟨i + 1, by go_num, by omega, HB0.out⟩
          case measure => simp [intOf]; omega
    · have x0 := cell_heap (i := 0) ((HB0.out.block _ (by omega)).trans HXx.out) rfl
      have x1 := cell_heap (i := 1) ((HB0.out.block _ (by omega)).trans HXx.out) rfl
      have x2 := cell_heap (i := 2) ((HB0.out.block _ (by omega)).trans HXx.out) rfl
      go_wp2_with fail
      refine (check_any (fun _ => True) _ _ _ X _ (HXW.out.below HB0.out) hlsX hlhX hlmX).mono ?_
      rw [hchk.out]
      rintro e w5 ⟨rfl, hb5⟩
      have HB5 := Lib.hid (bup (bup HB3.out HBW.out) (bup HB0.out hb5))
      clear hb5
      go_wp2_with fail
      refine (sane33_any _).mono ?_
      rintro e w6 ⟨rfl, hb6⟩
      have HB6 := Lib.hid (bup HB5.out hb6)
      clear hb6
      go_wp2
      go_ret
      exact ⟨rfl, HB6.out⟩
end Go.Proofs.Ytjfngogfiafipaa
