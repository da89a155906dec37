/- RegisterSums: the walk. Printed by wip/gen/l33sum.py. -/
import Derived.Test.YtjfngogfiafipaaZL33PlC
namespace Go.Proofs.Ytjfngogfiafipaa
open Go.RowKit
set_option linter.unusedVariables false
set_option linter.unusedSimpArgs false
set_option maxHeartbeats 16000000 in
set_option maxRecDepth 100000 in
theorem sums_walk (k0 : Option Addr) (len0 cap0 : Nat) (w : World) (h1 : len0 ≤ cap0) (h2 : cap0 ≤ maxLen) (hz : len0 = 0 ∨ ∃ b off, k0 = some ⟨b, off, none⟩ ∧ ∀ i, i < len0 → ∃ z : Int, w.cell? ⟨b, off + i, none⟩ = some (.int .i64 z)) :
    Calls Try.prog 5 #[.slice k0 len0 cap0] w fun e w' => e = .returned (.bool true) ∧ Below w.heap.size w w' := by
  go_enter Try.func5, Try.ntmps5
  go_wp2_with fail
  refine (new_any k0 len0 cap0 w h1 h2 hz).mono ?_
  rintro e w1 ⟨sb, rfl, hsb, hS1, hB1⟩
  clear hz
  go_wp2_with fail
  refine (sreg_any sb 4 w1 hS1 (by omega)).mono ?_
  rintro e w2 ⟨vs, vh, vm, R, day, rfl, hlike, hml, hdl, hR, hS2, hG2⟩
  have hlt := srcOk_lt hS1
  have hB2 : Below w.heap.size w w2 := hB1.trans (below_of_grown hG2 hsb hB1.size)
  have z2 := hG2.size
  obtain ⟨a0, n0, c0, rfl, -, -, -⟩ := hR.S.shape
  obtain ⟨a1, n1, c1, rfl, -, -, -⟩ := hR.H.shape
  obtain ⟨a2, n2, c2, rfl, -, -, -⟩ := hR.M.shape
  go_wp2
  obtain ⟨W2, hW2⟩ : ∃ W, W = w2.alloc (.cells #[.slice a0 n0 c0, .slice a1 n1 c1, .slice a2 n2 c2] 29 (0, 0)) := ⟨_, rfl⟩
  have hR2 : RgIn (fun b => w1.heap.size ≤ b ∧ b ≠ w2.heap.size) W2 (.slice a0 n0 c0) (.slice a1 n1 c1) (.slice a2 n2 c2) R := by rw [hW2]; exact (hR.mono (fun b hb hl => by omega)).below (bal brefl _)
  have hx2 : W2.heap[w2.heap.size]? = some (.cells #[.slice a0 n0 c0, .slice a1 n1 c1, .slice a2 n2 c2] 29 (0, 0)) := by rw [hW2]; exact heap_alloc_new w2 _
  have hS2' : SrcOk W2 sb := by rw [hW2]; exact srcOk_alloc hS2 _
  have hB2' : Below w.heap.size w W2 := by rw [hW2]; exact hB2.alloc hB2.size _
  have HW2 := Lib.hid hW2
  have H2 := Lib.hid (And.intro hR2 (And.intro hx2 (And.intro hS2' (And.intro hB2' hlike))))
  clear hR hS2 hG2 hB2 hB1 hS1 hW2 hR2 hx2 hS2' hB2' hlike
  go_loopw [5, 6] (fun dv iv wr => ∃ (k day : Int) (R : Reg) (a0 a1 a2 : Option Addr) (n0 c0 n1 c1 n2 c2 : Nat), dv = .int .i64 day ∧ iv = .int .i64 k ∧ (0 ≤ k ∧ k ≤ 10) ∧ RegLike R day ∧ (R.ms.length : Int) ≤ 4 + k ∧ day ≤ 130 * (4 + k) ∧ wr.heap[w2.heap.size]? = some (.cells #[.slice a0 n0 c0, .slice a1 n1 c1, .slice a2 n2 c2] 29 (0, 0)) ∧ RgIn (fun b => w1.heap.size ≤ b ∧ b ≠ w2.heap.size) wr (.slice a0 n0 c0) (.slice a1 n1 c1) (.slice a2 n2 c2) R ∧ SrcOk wr sb ∧ Below w.heap.size w wr) (fun _ iv _ => (10 - intOf iv).toNat)
  case atStart => exact ⟨0, day, R, a0, a1, a2, n0, c0, n1, c1, n2, c2, rfl, rfl, by omega, H2.out.2.2.2.2, by omega, by omega, by rw [← HW2.out]; exact H2.out.2.1, by rw [← HW2.out]; exact H2.out.1, by rw [← HW2.out]; exact H2.out.2.2.1, by rw [← HW2.out]; exact H2.out.2.2.2.1⟩
  case round =>
    clear H2 HW2
    obtain ⟨k, day, R, a0, a1, a2, n0, c0, n1, c1, n2, c2, rfl, rfl, hk, hlike, hml, hdl, hx, hR, hS, hB⟩ := hrel
    have y0 := cell_heap (i := 0) hx rfl
    have y1 := cell_heap (i := 1) hx rfl
    have y2 := cell_heap (i := 2) hx rfl
    have zb : w2.heap.size < wr.heap.size := World.block_lt_of_cell? wr ⟨w2.heap.size, 0, none⟩ y0
    have HX := Lib.hid hx
    have HR := Lib.hid hR
    have HS := Lib.hid hS
    have HB := Lib.hid hB
    have HLIKE := Lib.hid hlike
    clear hx hR hS hB hlike
    by_cases hk10 : k < 10
    · have hd0 := HLIKE.out.day0
      have hlm := HLIKE.out.ok.lm
      go_wp2_with fail
      refine (deal_any (fun b => w1.heap.size ≤ b ∧ b ≠ w2.heap.size) sb _ _ _ R day wr HS.out HR.out (by have := HLIKE.out.ok.ls; omega) (by have := HLIKE.out.ok.hl; omega) (by omega) (fun b hb => by omega) (fun b hb => by omega) hd0 (by omega)).mono ?_
      rintro e w3 ⟨us, uh, um, X, day', rfl, hdt, hX, hS3, hG3⟩
      obtain ⟨p0, q0, l0, rfl, hq0, -, -⟩ := hX.S.shape
      obtain ⟨p1, q1, l1, rfl, hq1, -, -⟩ := hX.H.shape
      obtain ⟨p2, q2, l2, rfl, hq2, -, -⟩ := hX.M.shape
      have hdd := HLIKE.out.dealt hdt
      have hx3 : w3.heap[w2.heap.size]? = some (.cells #[.slice a0 n0 c0, .slice a1 n1 c1, .slice a2 n2 c2] 29 (0, 0)) := (hG3.block _ zb (by simp; omega)).trans HX.out
      have z3 := hG3.size
      have hB3 : Below w.heap.size w w3 := HB.out.trans (below_of_grown hG3 hsb HB.out.size)
      clear y0 y1 y2
      have y0 := cell_heap (i := 0) hx3 rfl
      have y1 := cell_heap (i := 1) hx3 rfl
      have y2 := cell_heap (i := 2) hx3 rfl
      have yf0 := frozen_of_row w3 _ 0 _ _ hx3
      have yf1 := frozen_of_row w3 _ 1 _ _ hx3
      have yf2 := frozen_of_row w3 _ 2 _ _ hx3
      have e0 := heap_setCell_same w3 _ 0 _ _ (.slice p0 q0 l0) hx3
      have e1 := heap_setCell_same _ _ 1 _ _ (.slice p1 q1 l1) e0
      have e2 := heap_setCell_same _ _ 2 _ _ (.slice p2 q2 l2) e1
      obtain ⟨W, hW⟩ : ∃ W, W = ((w3.setCell ⟨w2.heap.size, 0, none⟩ (.slice p0 q0 l0)).setCell ⟨w2.heap.size, 1, none⟩ (.slice p1 q1 l1)).setCell ⟨w2.heap.size, 2, none⟩ (.slice p2 q2 l2) := ⟨_, rfl⟩
      have hxW : W.heap[w2.heap.size]? = some (.cells #[.slice p0 q0 l0, .slice p1 q1 l1, .slice p2 q2 l2] 29 (0, 0)) := by rw [hW]; exact e2
      have hRW : RgIn (fun b => w1.heap.size ≤ b ∧ b ≠ w2.heap.size) W (.slice p0 q0 l0) (.slice p1 q1 l1) (.slice p2 q2 l2) X := by rw [hW]; exact hX.set3 (fun b hb => hb.2)
      have hbs := below_set3 w3 (show sb + 1 ≤ w2.heap.size by omega) (.slice p0 q0 l0) (.slice p1 q1 l1) (.slice p2 q2 l2)
      rw [← hW] at hbs
      have hSW : SrcOk W sb := srcOk_below hS3 hbs (by omega)
      have hBW : Below w.heap.size w W := hB3.trans (hbs.mono (by omega))
      have zW : W.heap.size = w3.heap.size := by rw [hW]; simp [World.setCell]
      have hXok := hdd.1.ok
      have HXW := Lib.hid hxW
      have HRW := Lib.hid hRW
      have HSW := Lib.hid hSW
      have HBW := Lib.hid hBW
      have HDD := Lib.hid hdd
      have HWW := Lib.hid hW
      have HOK := Lib.hid hXok
      have HQ0 := Lib.hid hq0
      have HQ2 := Lib.hid hq2
      have hq0b : q0 ≤ 20 := by have := hXok.ls; omega
      have hq2b : q2 ≤ 400 := by have := hXok.lm; omega
      clear hdt hX hS3 hG3 hx3 hB3 e0 e1 e2 hW hxW hRW hSW hBW hbs hdd hXok hq0 hq1 hq2
      go_wp2
      go_loopw [7, 34] (fun dv iv wr2 => ∃ j : Nat, j ≤ q0 ∧ dv = .int .i64 (debtS (X.secs.take j) X.hs) ∧ iv = .int .i64 j ∧ Below W.heap.size W wr2) (fun _ iv _ => q0 - (intOf iv).toNat)
      case atStart => exact ⟨0, by omega, rfl, rfl, by rw [HWW.out]; exact Below.refl _ _⟩
      case round =>
        clear y0 y1 y2 yf0 yf1 yf2
        obtain ⟨j, hj, rfl, rfl, hb2⟩ := hrel
        have zr := hb2.size
        have zx2 : w2.heap.size < wr.heap.size := by omega
        have dbd := debtS_bd (L := X.secs) HOK.out.hok j
        obtain ⟨D, hD⟩ : ∃ D, debtS (X.secs.take j) X.hs = D := ⟨_, rfl⟩
        rw [hD] at dbd
        rw [hD]
        have HD := Lib.hid hD
        have HB2 := Lib.hid hb2
        have hxr := (hb2.block _ (by omega)).trans HXW.out
        have y0 := cell_heap (i := 0) hxr rfl
        have y1 := cell_heap (i := 1) hxr rfl
        have y2 := cell_heap (i := 2) hxr rfl
        have HXR := Lib.hid hxr
        clear hD hb2 hxr
        by_cases hlt2 : j < q0
        · obtain ⟨b, off, sid, sun, sis, sma, sra, sev, six, rfl, -, hbb, hL, k0', k1', k2', k3', k4', k5', k6'⟩ := (HRW.out.below HB2.out).S.sec hlt2
          have hun := HOK.out.unit hL
          have hsu := secOk_un (HOK.out.sec _ (List.mem_of_getElem? hL))
          have HL := Lib.hid (take_snocZ hL)
          simp only at hun hsu
          have hjq : (j : Int) < q0 := by omega
          clear hL
          go_wp2
          obtain ⟨W5, hW5⟩ : ∃ W5, W5 = wr.alloc (.cells #[.int .i64 sid, .int .i64 sun, .int .i64 sis, .int .i64 sma, .int .i64 sra, .int .i64 sev, .bool six] 45 (0, 0)) := ⟨_, rfl⟩
          have hb5 : Below wr.heap.size wr W5 := by rw [hW5]; exact bal brefl _
          have z5 : W5.heap.size = wr.heap.size + 1 := by rw [hW5]; simp
          have zs : ∀ W' : World, W5.heap.size ≤ W'.heap.size → wr.heap.size < W'.heap.size ∧ w2.heap.size < W'.heap.size := fun W' h => by omega
          have hx5 := (hb5.block _ (by omega)).trans HXR.out
          have hs5 : W5.heap[wr.heap.size]? = some (.cells #[.int .i64 sid, .int .i64 sun, .int .i64 sis, .int .i64 sma, .int .i64 sra, .int .i64 sev, .bool six] 45 (0, 0)) := by rw [hW5]; exact heap_alloc_new wr _
          have HR5 := Lib.hid ((HRW.out.below HB2.out).below hb5)
          have HB5 := Lib.hid (bup HB2.out hb5)
          have HX5 := Lib.hid hx5
          have HS5 := Lib.hid hs5
          have HW5 := Lib.hid hW5
          have HUN := Lib.hid hun
          have HAMT := Lib.hid (fun m hm => (HOK.out.amt m hm).1)
          clear y0 y1 y2 k0' k1' k2' k3' k4' k5' k6' hb5 hx5 hs5 hW5 hun
          go_loopw [10, 41] (fun nv iv wr3 => ∃ i : Nat, i ≤ q2 ∧ nv = .int .i64 (nOf (X.ms.take i) sid) ∧ iv = .int .i64 i ∧ Below W5.heap.size W5 wr3) (fun _ iv _ => q2 - (intOf iv).toNat)
          case atStart => exact ⟨0, by omega, rfl, rfl, by rw [HW5.out]; exact Below.refl _ _⟩
          case round =>
            obtain ⟨i, hi, rfl, rfl, hb6⟩ := hrel
            have z6 := hb6.size
            obtain ⟨zx3, zx4⟩ := zs _ z6
            have nbd := nOf_bd HAMT.out sid i
            obtain ⟨N, hN⟩ : ∃ N, nOf (X.ms.take i) sid = N := ⟨_, rfl⟩
            rw [hN] at nbd
            rw [hN]
            have HN := Lib.hid hN
            have hs6 := (hb6.block _ (by omega)).trans HS5.out
            have s0 := cell_heap (i := 0) hs6 rfl
            have s1 := cell_heap (i := 1) hs6 rfl
            have HB6 := Lib.hid hb6
            have hx6 := (hb6.block _ (by omega)).trans HX5.out
            have HX6 := Lib.hid hx6
            clear hN hb6 hs6 hx6
            by_cases hlt3 : i < q2
            · obtain ⟨mb, mo, mn, md, mk, mS, mf, mt, ma, rfl, -, hmb, hM, m0, m1, m2, m3, m4, m5, m6⟩ := (HR5.out.below HB6.out).M.mv hlt3
              have hmm := (HAMT.out _ (List.mem_of_getElem? hM))
              have HT := Lib.hid (take_snocZ hM)
              simp only at hmm
              clear hM
              have hiq : (i : Int) < q2 := by omega
              have hsum : nOf (X.ms.take (i + 1)) sid = N + mvN ⟨mn, md, mk, mS, mf, mt, ma⟩ sid := by rw [HT.out, nOf_append, HN.out]; simp [nOf]
              have HSUM := Lib.hid hsum
              clear hsum
              by_cases e1 : mS = sid
              · by_cases e2 : mk = 1
                · have hv := Lib.hid (show nOf (X.ms.take (i + 1)) sid = N + ma by rw [HSUM.out]; simp [mvN, e1, e2])
                  have hw1 : IntKind.i64.wrap (N + ma) = N + ma := IntWalk.i64_in _ (by omega)
                  subst e1 e2
                  go_wp2
                  go_roundw
                  case rel => exact ⟨i + 1, by omega, by rw [hv.out], by go_num, bal HB6.out _⟩
                  case measure => simp [intOf]; omega
                · have q1 : (mk == 1) = false := by simpa using e2
                  by_cases e3 : mk = 3
                  · have hv := Lib.hid (show nOf (X.ms.take (i + 1)) sid = N - ma by rw [HSUM.out]; simp [mvN, e1, e3]; omega)
                    have hw1 : IntKind.i64.wrap (N - ma) = N - ma := IntWalk.i64_in _ (by omega)
                    subst e1 e3
                    go_wp2
                    go_roundw
                    case rel => exact ⟨i + 1, by omega, by rw [hv.out], by go_num, bal HB6.out _⟩
                    case measure => simp [intOf]; omega
                  · have q3 : (mk == 3) = false := by simpa using e3
                    have hv := Lib.hid (show nOf (X.ms.take (i + 1)) sid = N by rw [HSUM.out]; simp [mvN, e1, e2, e3])
                    subst e1
                    go_wp2
                    go_roundw
                    case rel => exact ⟨i + 1, by omega, by rw [hv.out], by go_num, bal HB6.out _⟩
                    case measure => simp [intOf]; omega
              · have q4 : (mS == sid) = false := by simpa using e1
                have hv := Lib.hid (show nOf (X.ms.take (i + 1)) sid = N by rw [HSUM.out]; simp [mvN, e1])
                go_wp2
                go_roundw
                case rel => exact ⟨i + 1, by omega, by rw [hv.out], by go_num, bal HB6.out _⟩
                case measure => simp [intOf]; omega
            · have hall : N = outH X.hs sid := by rw [← HN.out, take_all (by have := HQ2.out; omega), HOK.out.out]
              have hN0 : 0 ≤ N ∧ N ≤ 1000000000000 := by rw [hall]; exact ⟨outH_nonneg HOK.out.hok.pos sid, HOK.out.hok.out sid⟩
              have hmod : N % sun = 0 := by
                have h := HUN.out
                rw [← HOK.out.out, ← hall] at h
                exact h
              have htm : N.tmod sun = 0 := by rw [Int.tmod_eq_emod_of_nonneg hN0.1]; exact hmod
              have hro : rgOut X sid = N := by unfold rgOut; rw [if_pos (chkE_iff.2 HOK.out), hall]
              have HRO := Lib.hid hro
              have hnx := Lib.hid (show debtS (X.secs.take (j + 1)) X.hs = D + N by rw [HL.out, debtS_append, HD.out]; simp [debtS, hall])
              have hu3 : ¬ sun = 0 := by omega
              have hu4 : ¬ sun = -1 := by omega
              have hx6' := HX6.out
              have y0 := cell_heap (i := 0) hx6' rfl
              have y1 := cell_heap (i := 1) hx6' rfl
              have y2 := cell_heap (i := 2) hx6' rfl
              clear hall hmod hro hx6'
              go_wp2_with fail
              refine (rout_any _ _ _ _ X sid _ (HR5.out.below HB6.out) (by have := HOK.out.ls; omega) (by have := HOK.out.hl; omega) (by have := HOK.out.lm; omega)).mono ?_
              rw [HRO.out]
              rintro e w7 ⟨rfl, hb7⟩
              have s1' := keepB hb7 s1
              have HB7 := Lib.hid (bup (HB5.out.trans (HB6.out.mono (by omega))) hb7)
              clear hb7 s0 s1 y0 y1 y2
              have hwD : IntKind.i64.wrap (D + N) = D + N := IntWalk.i64_in _ (by omega)
              go_wp2
              go_roundw
              case rel => exact ⟨j + 1, by omega, by rw [hnx.out], by go_num, HB7.out⟩
              case measure => simp [intOf]; omega
        · have hall : D = debtS X.secs X.hs := by rw [← HD.out, take_all (by have := HQ0.out; omega)]
          have HDB := Lib.hid (show rgDebt X = D by rw [HOK.out.debt, hall])
          have HCK := Lib.hid (chkE_iff.2 HOK.out)
          have hlsX : X.secs.length ≤ 1000000 := by have := HOK.out.ls; omega
          have hlhX : X.hs.length ≤ 1000000 := by have := HOK.out.hl; omega
          have hlmX : X.ms.length ≤ 1000000 := by have := HOK.out.lm; omega
          clear hall
          go_wp2_with fail
          refine (check_any _ _ _ _ X _ (HRW.out.below HB2.out) hlsX hlhX hlmX).mono ?_
          rw [HCK.out]
          rintro e w7 ⟨rfl, hb7⟩
          have hx7 := (hb7.block _ (by omega)).trans HXR.out
          have HX7 := Lib.hid hx7
          have HB7 := Lib.hid (bup HB2.out hb7)
          have HR7 := Lib.hid ((HRW.out.below HB2.out).below hb7)
          have z7 := hb7.size
          clear y0 y1 y2 hb7
          have y0 := cell_heap (i := 0) hx7 rfl
          have y1 := cell_heap (i := 1) hx7 rfl
          have y2 := cell_heap (i := 2) hx7 rfl
          clear hx7
          go_wp2_with fail
          refine (rdebt_any _ _ _ _ X _ HR7.out hlsX hlhX hlmX).mono ?_
          rw [HDB.out]
          rintro e w8 ⟨rfl, hb8⟩
          have HX8 := Lib.hid ((hb8.block _ (by omega)).trans HX7.out)
          have HB8 := Lib.hid (bup HB7.out hb8)
          have HR8 := Lib.hid (HR7.out.below hb8)
          clear y0 y1 y2 hb8
          have h2 := HDD.out.2.1
          have h3 := HDD.out.2.2.1
          go_wp2
          go_roundw
          case rel => exact ⟨k + 1, day', X, p0, p1, p2, q0, l0, q1, l1, q2, l2, rfl, by go_num, by omega, HDD.out.1, by omega, by omega, HX8.out, HR8.out, srcOk_below HSW.out HB8.out (by omega), HBW.out.trans (HB8.out.mono (by have := HBW.out.size; omega))⟩
          case measure => simp [intOf]; omega
    · clear y0 y1 y2
      go_wp2_with fail
      refine (sane33_any _).mono ?_
      rintro e w3 ⟨rfl, hb3⟩
      have HB3 := Lib.hid (bup HB.out hb3)
      clear hb3
      go_wp2
      go_ret
      exact ⟨rfl, HB3.out⟩
end Go.Proofs.Ytjfngogfiafipaa
