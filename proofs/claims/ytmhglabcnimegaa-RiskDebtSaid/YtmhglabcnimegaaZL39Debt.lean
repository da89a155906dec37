/- RiskDebt: the walk. -/
import Derived.Test.YtmhglabcnimegaaZL39Base
import Derived.Test.YtmhglabcnimegaaZRegP
namespace Go.Proofs.Ytmhglabcnimegaa
open Go.RowKit
set_option linter.unusedVariables false
set_option linter.unusedSimpArgs false
set_option maxHeartbeats 16000000 in
set_option maxRecDepth 100000 in
theorem rdebt_walk (k0 : Option Addr) (len0 cap0 : Nat) (w : World) (h1 : len0 ≤ cap0) (h2 : cap0 ≤ maxLen) (hz : len0 = 0 ∨ ∃ b off, k0 = some ⟨b, off, none⟩ ∧ ∀ i, i < len0 → ∃ z : Int, w.cell? ⟨b, off + i, none⟩ = some (.int .i64 z)) :
    Calls Try.prog 5 #[.slice k0 len0 cap0] w fun e w' => e = .returned (.bool true) ∧ Below w.heap.size w w' := by
  go_enter Try.func5, Try.ntmps5
  go_wp2_with fail
  refine (new_any k0 len0 cap0 w h1 h2 hz).mono ?_
  rintro e w1 ⟨sb, rfl, hsb, hS1, hB1⟩
  clear hz
  go_wp2_with fail
  refine (sreg_any sb 8 w1 hS1 (by omega)).mono ?_
  rintro e w2 ⟨vs, vh, vm, R, day, rfl, hlike, hml, hdl, hR, hS2, hG2⟩
  have hlt := srcOk_lt hS1
  have hB2 : Below w.heap.size w w2 := hB1.trans (below_of_grown hG2 hsb hB1.size)
  have z2 := hG2.size
  obtain ⟨a0, n0, c0, rfl, -, -, -⟩ := hR.S.shape
  obtain ⟨a1, n1, c1, rfl, -, -, -⟩ := hR.H.shape
  obtain ⟨a2, n2, c2, rfl, -, -, -⟩ := hR.M.shape
  have hls : R.secs.length ≤ 1000000 := by have := hlike.ok.ls; omega
  have hlh : R.hs.length ≤ 1000000 := by have := hlike.ok.hl; omega
  have hlm : R.ms.length ≤ 1000000 := by omega
  have HOK := Lib.hid hlike.ok
  go_upto_region 3 with fail
  obtain ⟨W2, hW2⟩ : ∃ W, W = w2.alloc (.cells #[.slice a0 n0 c0, .slice a1 n1 c1, .slice a2 n2 c2] 29 (0, 0)) := ⟨_, rfl⟩
  have hR2 : RgIn (fun b => w1.heap.size ≤ b) W2 (.slice a0 n0 c0) (.slice a1 n1 c1) (.slice a2 n2 c2) R := by rw [hW2]; exact (hR.mono (fun b hb hl => by omega)).below (bal brefl _)
  have hx2 : W2.heap[w2.heap.size]? = some (.cells #[.slice a0 n0 c0, .slice a1 n1 c1, .slice a2 n2 c2] 29 (0, 0)) := by rw [hW2]; exact heap_alloc_new w2 _
  have hS2' : SrcOk W2 sb := by rw [hW2]; exact srcOk_alloc hS2 _
  have hB2' : Below w.heap.size w W2 := by rw [hW2]; exact hB2.alloc hB2.size _
  rw [← hW2]
  have HR2 := Lib.hid hR2
  have HX2 := Lib.hid hx2
  have HS2 := Lib.hid hS2'
  have HB2 := Lib.hid hB2'
  have hz2 : w2.heap.size < W2.heap.size := (Array.getElem?_eq_some_iff.1 hx2).1
  have y0 := cell_heap (i := 0) hx2 rfl
  have y1 := cell_heap (i := 1) hx2 rfl
  have y2 := cell_heap (i := 2) hx2 rfl
  have hsb2 : sb < w2.heap.size := by omega
  clear hR hS2 hG2 hB2 hB1 hS1 hW2 hR2 hx2 hS2' hB2' hlike hml hdl
  go_cut [6, 7] (fun v6 v7 wx => ∃ (L : List Int) (fo : Option Addr) (fc : Nat), v6 = .slice fo L.length fc ∧ v7 = .int .i64 0 ∧ pathB L = true ∧ (1 ≤ L.length ∧ L.length ≤ 60) ∧ Sl 4 encSvc (fun _ => True) wx (.slice fo L.length fc) (prL R 0 L) ∧ wx.heap[w2.heap.size]? = some (.cells #[.slice a0 n0 c0, .slice a1 n1 c1, .slice a2 n2 c2] 29 (0, 0)) ∧ RgIn (fun _ => True) wx (.slice a0 n0 c0) (.slice a1 n1 c1) (.slice a2 n2 c2) R ∧ Below w.heap.size w wx)
  case first =>
    go_region_with (first
      | (go_at_call 52; refine (srates_any sb _ (srcOk_drewN HS2.out 1)).mono ?_; rintro e w3 ⟨v3, L, rfl, hown3, hL3, hok3, hS3, hG3⟩; have hG3' : W2.grownBy w3 (some sb) := grownBy_undrew hG3; have hx3 : w3.heap[w2.heap.size]? = some (.cells #[.slice a0 n0 c0, .slice a1 n1 c1, .slice a2 n2 c2] 29 (0, 0)) := (hG3'.block _ hz2 (by simp; omega)).trans HX2.out; have hR3 : RgIn (fun _ => True) w3 (.slice a0 n0 c0) (.slice a1 n1 c1) (.slice a2 n2 c2) R := (HR2.out.grown hG3' (fun b hb => by omega)).any; have hB3 : Below w.heap.size w w3 := HB2.out.trans (below_of_grown hG3' hsb HB2.out.size); have hl3 : Sl 1 encI (fun _ => True) w3 v3 L := Sl.own encI_len hown3 rfl (fun _ _ => trivial); obtain ⟨f3, c3, rfl⟩ := own_slice0 hown3; have hp3 := rates_path hok3 (by omega) (by omega); have HP3 := Lib.hid (And.intro hp3 (And.intro hL3 (And.intro hx3 (And.intro hR3 hB3)))); have HL3 := Lib.hid hl3; have s0 := cell_heap (i := 0) hx3 rfl; have s1 := cell_heap (i := 1) hx3 rfl; have s2 := cell_heap (i := 2) hx3 rfl; clear hown3 hL3 hok3 hS3 hG3 hG3' hx3 hR3 hB3 hl3 hp3)
      | (go_at_call 51; refine (project_any (fun _ => True) (fun _ => True) _ _ _ _ R 0 L _ HP3.out.2.2.2.1 hls hlh hlm HL3.out (by have := HP3.out.2.1; omega)).mono ?_; rw [prE_ok HOK.out HP3.out.1 (by omega) (by omega)]; rintro e w4 ⟨v4, rfl, hown4, hb4⟩; have hlen := prL_len (prE_ok HOK.out HP3.out.1 (show (0 : Int) ≤ 0 by omega) (by omega)); rw [hlen] at hown4; have HO4 := Lib.hid (Sl.own (P := fun _ => True) encSvc_len hown4 hlen (fun _ _ => trivial)); obtain ⟨f4, k4, rfl⟩ := own_slice0 hown4; have HB4 := Lib.hid hb4; clear hown4 hb4 hlen))
    all_goals (go_wp2_with fail; go_meet)
    all_goals exact ⟨L, _, _, rfl, rfl, HP3.out.1, by have := HP3.out.2.1; omega, HO4.out, keep_box HB4.out HP3.out.2.2.1, HP3.out.2.2.2.1.below HB4.out, HP3.out.2.2.2.2.trans (HB4.out.mono HP3.out.2.2.2.2.size)⟩
  case rest =>
    obtain ⟨L, fo, fc, rfl, rfl, hp, hll, hsl, hx, hR, hB⟩ := hcut
    clear y0 y1 y2 HR2 HX2 HS2 HB2
    have y0 := cell_heap (i := 0) hx rfl
    have y1 := cell_heap (i := 1) hx rfl
    have y2 := cell_heap (i := 2) hx rfl
    have HP := Lib.hid hp
    have HSL := Lib.hid hsl
    have HR := Lib.hid hR
    have HB := Lib.hid hB
    have hzc : w2.heap.size < wc.heap.size := (Array.getElem?_eq_some_iff.1 hx).1
    have HPE := Lib.hid (prE_ok HOK.out hp (show (0 : Int) ≤ 0 by omega) (by omega))
    obtain ⟨D, hD⟩ : ∃ D, rgDebt R = D := ⟨_, rfl⟩
    have HD := Lib.hid hD
    obtain ⟨n, hn⟩ : ∃ n, L.length = n := ⟨_, rfl⟩
    have HN := Lib.hid hn
    rw [hn] at hll HSL ⊢
    clear hp hsl hx hR hB hD hn
    go_wp2_with fail
    go_loopw [33] (fun iv wr => ∃ k : Nat, k ≤ n ∧ iv = .int .i64 k ∧ Below wc.heap.size wc wr) (fun iv _ => n - (intOf iv).toNat)
    case atStart => exact ⟨0, by omega, rfl, brefl⟩
    case round =>
      obtain ⟨k, hk, rfl, hbr⟩ := hrel
      have HBR := Lib.hid hbr
      by_cases hlt : k < n
      · obtain ⟨b, off, yr, i, p, d, rfl, -, hbl, hxk, q0, q1, q2, q3⟩ := (HSL.out.below hbr).svc hlt
        have hat := prL_at HPE.out hxk
        have e0 : yr = k := (congrArg Svc.yr hat).trans (prj_year R L k)
        have e1 : d = D := (congrArg Svc.d hat).trans ((prj_debt HOK.out L k).trans HD.out)
        have e2 : 0 ≤ i := by have := prj_int HOK.out HP.out 0 k; rw [← hat] at this; exact this
        have e3 : p = (prjS R 0 L k).p := congrArg Svc.p hat
        subst e0 e1
        have r0 := keepB hbr y0
        have r1 := keepB hbr y1
        have r2 := keepB hbr y2
        have HPP := Lib.hid e3
        clear hat e3 hxk
        cases k with
        | zero =>
          simp only [Nat.zero_mul, Nat.add_zero] at q0 q1 q2 q3
          go_upto_region 9 with fail
          generalize hW9 : World.alloc wr _ = W9
          have hb9 : Below wr.heap.size wr W9 := by rw [← hW9]; exact bal brefl _
          have hx9 : W9.heap[wr.heap.size]? = some (.cells #[.int .i64 0, .int .i64 i, .int .i64 p, .int .i64 d] 73 (0, 0)) := by rw [← hW9]; exact World.alloc_heap_new _ _
          have HB9 := Lib.hid (bup hbr hb9)
          have c0 := up_cell (cell_heap (i := 0) hx9 rfl)
          have c1 := up_cell (cell_heap (i := 1) hx9 rfl)
          have c2 := up_cell (cell_heap (i := 2) hx9 rfl)
          have c3 := up_cell (cell_heap (i := 3) hx9 rfl)
          have g0 := up_cell (keepB hb9 r0)
          have g1 := up_cell (keepB hb9 r1)
          have g2 := up_cell (keepB hb9 r2)
          have K := Lib.hid (fun W (hW : Below W9.heap.size W9 W) => fDebt_any (fun _ => True) _ _ _ R W (HR.out.below (bup HB9.out hW)) hls hlh hlm)
          rw [HD.out] at K
          have d1 : decide (i < 0) = false := decide_eq_false (by omega)
          have d2 : decide ((0 : Int) < ((0 : Nat) : Int)) = false := rfl
          clear hW9 hx9 r0 r1 r2 hbr
          (refine wp_region_up (by kernel_rfl) (by kernel_rfl) ?_); (repeat (go_big_quiet_step ((go_at_call 22; (with_reducible refine (K.out _ (up_prop _)).mono ?_); exact fun _ _ hh => ⟨hh.1, ⟨_, bup (Subtype.property _) hh.2⟩, rfl⟩)))); (refine wpQuiet_nil ?_); (rintro w5 ⟨⟨_, hb5⟩, rfl⟩)
          go_wp2
          go_roundw
          case rel => exact ⟨0 + 1, by omega, by go_num, bup HB9.out hb5⟩
          case measure => simp [intOf]; omega
        | succ j =>
          obtain ⟨b', off', yr', i', p', d', he', -, hbl', hxk', t0, t1, t2, t3⟩ := (HSL.out.below hbr).svc (k := j) (by omega)
          cases he'
          have hat' := congrArg Svc.p (prL_at HPE.out hxk')
          have hgr := prj_grow HOK.out L 0 j
          have hpp : p' ≤ p := by rw [HPP.out, show p' = (prjS R 0 L j).p from hat']; exact hgr
          clear hat' hgr hxk'
          go_upto_region 9 with fail
          generalize hW9 : World.alloc wr _ = W9
          have hb9 : Below wr.heap.size wr W9 := by rw [← hW9]; exact bal brefl _
          have hx9 : W9.heap[wr.heap.size]? = some (.cells #[.int .i64 (j + 1), .int .i64 i, .int .i64 p, .int .i64 d] 73 (0, 0)) := by rw [← hW9]; exact World.alloc_heap_new _ _
          have HB9 := Lib.hid (bup hbr hb9)
          have c0 := up_cell (cell_heap (i := 0) hx9 rfl)
          have c1 := up_cell (cell_heap (i := 1) hx9 rfl)
          have c2 := up_cell (cell_heap (i := 2) hx9 rfl)
          have c3 := up_cell (cell_heap (i := 3) hx9 rfl)
          have g0 := up_cell (keepB hb9 r0)
          have g1 := up_cell (keepB hb9 r1)
          have g2 := up_cell (keepB hb9 r2)
          have g3 := up_cell (keepB hb9 t2)
          have K := Lib.hid (fun W (hW : Below W9.heap.size W9 W) => fDebt_any (fun _ => True) _ _ _ R W (HR.out.below (bup HB9.out hW)) hls hlh hlm)
          rw [HD.out] at K
          have d1 : decide (i < 0) = false := decide_eq_false (by omega)
          have d2 : decide ((0 : Int) < ((j + 1 : Nat) : Int)) = true := decide_eq_true (by omega)
          have d3 : decide ((0 : Int) < (j : Int) + 1) = true := decide_eq_true (by omega)
          have d4 : decide (p < p') = false := decide_eq_false (by omega)
          clear hW9 hx9 r0 r1 r2 hbr
          (refine wp_region_up (by kernel_rfl) (by kernel_rfl) ?_); (repeat (go_big_quiet_step ((go_at_call 22; (with_reducible refine (K.out _ (up_prop _)).mono ?_); exact fun _ _ hh => ⟨hh.1, ⟨_, bup (Subtype.property _) hh.2⟩, rfl⟩)))); (refine wpQuiet_nil ?_); (rintro w5 ⟨⟨_, hb5⟩, rfl⟩)
          go_wp2
          go_roundw
          case rel => exact ⟨j + 1 + 1, by omega, by go_num, bup HB9.out hb5⟩
          case measure => simp [intOf]; omega
      · obtain rfl : k = n := by omega
        go_wp2_with fail
        refine (sane39_any _).mono ?_
        rintro e w9 ⟨rfl, hb9⟩
        go_wp2
        go_ret
        exact ⟨rfl, HB.out.trans ((bup HBR.out hb9).mono HB.out.size)⟩
end Go.Proofs.Ytmhglabcnimegaa
