/- RegisterBent: the walk. Printed by wip/gen/l33bent.py. -/
import Derived.Test.YtjfngogfiafipaaZSetEl
namespace Go.Proofs.Ytjfngogfiafipaa
open Go.RowKit
set_option linter.unusedVariables false
set_option linter.unusedSimpArgs false
set_option maxHeartbeats 16000000 in
set_option maxRecDepth 100000 in
theorem bent_walk (k0 : Option Addr) (len0 cap0 : Nat) (w : World) (h1 : len0 ≤ cap0) (h2 : cap0 ≤ maxLen) (hz : len0 = 0 ∨ ∃ b off, k0 = some ⟨b, off, none⟩ ∧ ∀ i, i < len0 → ∃ z : Int, w.cell? ⟨b, off + i, none⟩ = some (.int .i64 z)) :
    Calls Try.prog 7 #[.slice k0 len0 cap0] w fun e w' => e = .returned (.bool true) ∧ Below w.heap.size w w' := by
  go_enter Try.func7, Try.ntmps7
  go_wp2_with fail
  refine (new_any k0 len0 cap0 w h1 h2 hz).mono ?_
  rintro e w1 ⟨sb, rfl, hsb, hS1, hB1⟩
  clear hz
  go_wp2_with fail
  refine (sreg_any sb 8 w1 hS1 (by omega)).mono ?_
  rintro e w2 ⟨vs, vh, vm, R, day, rfl, hlike, hml, hdl, hR, hS2, hG2⟩
  have hlt := srcOk_lt hS1
  have hB2 : Below w.heap.size w w2 := hB1.trans (below_of_grown hG2 hsb hB1.size)
  have z2 := hG2.size
  obtain ⟨a0, n0, c0, rfl, -, -, -⟩ := hR.S.shape
  obtain ⟨a1, n1, c1, rfl, hn1, -, -⟩ := hR.H.shape
  obtain ⟨a2, n2, c2, rfl, hn2, -, -⟩ := hR.M.shape
  obtain ⟨i1, hi, hz0, hz1, hz2⟩ := info_parts infoMv
  obtain ⟨j1, ji, jz0, jz1, jz2⟩ := info_parts infoHold
  have hn2b : n2 ≤ 8 := by omega
  have hn1b : n1 ≤ 800 := by have := hlike.ok.hl; omega
  have hls : R.secs.length ≤ 1000000 := by have := hlike.ok.ls; omega
  have hlh : R.hs.length ≤ 1000000 := by have := hlike.ok.hl; omega
  have hlm : R.ms.length ≤ 1000000 := by omega
  have HOK := Lib.hid hlike.ok
  have HR2 := Lib.hid hR
  have HB2 := Lib.hid hB2
  have HN2 := Lib.hid hn2
  have HN1 := Lib.hid hn1
  have HS2 := Lib.hid hS2
  have hsb2 : sb < w2.heap.size := by omega
  clear hR hS2 hG2 hB1 hB2 hS1 hlike hn2 hn1
  by_cases hm0 : n2 = 0
  · have g0 : ((n2 : Int) == 0) = true := by simp; omega
    subst hm0
    go_wp2_with fail
    refine (sane33_any _).mono ?_
    rintro e w3 ⟨rfl, hb3⟩
    have HB3 := Lib.hid (bup (bal HB2.out _) hb3)
    clear hb3
    go_wp2
    go_ret
    exact ⟨rfl, HB3.out⟩
  have g0 : ((n2 : Int) == 0) = false := by simp; omega
  obtain ⟨b, off, mm0, rfl, -, -, -, -⟩ := HR2.out.M.at_ (k := 0) (by omega)
  obtain ⟨W, hW⟩ : ∃ W, W = (w2.alloc (.cells #[.slice a0 n0 c0, .slice a1 n1 c1, .slice (some ⟨b, off, none⟩) n2 c2] 29 (0, 0))).alloc (.cells #[.slice a0 n0 c0, .slice a1 n1 c1, .slice (some ⟨b, off, none⟩) n2 c2] 29 (0, 0)) := ⟨_, rfl⟩
  have hbW : Below w2.heap.size w2 W := by rw [hW]; exact bal (bal brefl _) _
  have zW : W.heap.size = w2.heap.size + 2 := by rw [hW]; simp
  have hsrc : ∀ j u, (flatE encMv R.ms)[j]? = some u → W.cell? ((⟨b, off, none⟩ : Addr).add j) = some u := by
    obtain ⟨ao', n', c', q1, q2, q3, q4, q5⟩ := HR2.out.M.below hbW
    cases q1
    rcases q5 with q5 | ⟨b', off', q6, -, -, q7⟩
    · omega
    · cases q6
      intro j u hj
      rw [add_litZ]
      exact flatE_cells encMv_len R.ms off q7 j u hj
  have hfl : (flatE encMv R.ms).length = n2 * 7 := by rw [flatE_length encMv_len, HN2.out]
  have HSRC := Lib.hid hsrc
  have HFL := Lib.hid hfl
  have HWW := Lib.hid hW
  have HBW := Lib.hid hbW
  clear hsrc hfl hW hbW
  obtain ⟨X, hX⟩ : ∃ X, flatE encMv R.ms = X := ⟨_, rfl⟩
  have hone : ∀ u ∈ X, u.oneCell' = true := by rw [← hX]; exact oneE oneMv R.ms
  rw [hX] at HSRC HFL
  have HX := Lib.hid hX
  have HONE := Lib.hid hone
  clear hX hone
  go_wp2_with (at_builtin; rw [← HWW.out]; go_must (refine wpList_append_own _ rfl _ _ 27 rfl W.heap.size 36 i1 (.agg #[.int .i64 0, .int .i64 0, .int .i64 0, .int .i64 0, .int .i64 0, .int .i64 0, .int .i64 0]) 7 56 Try.underlying27 hi hz0 hz1 hz2 rfl (by decide) _ _ _ rfl (World.ownsRow_nil _ _ _ _) ⟨b, off, none⟩ n2 c2 X rfl HFL.out HSRC.out HONE.out (by unfold maxLen; omega) (by omega) (Nat.le_refl _) ?_); intro v5 w5 ho5 hg5 _; rw [Nat.zero_add, List.nil_append, ← HX.out] at ho5; have hb5 : Below W.heap.size W w5 := ⟨hg5.os, hg5.tape, hg5.output, hg5.size, fun k hk => hg5.block k hk (show some k ≠ none from by simp)⟩; have z5 := hb5.size; obtain ⟨g5, c5, rfl, hg50, hg51, -, -, -, -⟩ := ownZ_shape ho5 (by omega); have hA5 : w5.heap[w2.heap.size + 1]? = some (.cells #[.slice a0 n0 c0, .slice a1 n1 c1, .slice (some ⟨b, off, none⟩) n2 c2] 29 (0, 0)) := (hb5.block _ (by omega)).trans (by rw [HWW.out]; exact heap_at (by simp)); have hr5 : w5.heap[w2.heap.size]? = some (.cells #[.slice a0 n0 c0, .slice a1 n1 c1, .slice (some ⟨b, off, none⟩) n2 c2] 29 (0, 0)) := (hb5.block _ (by omega)).trans (by rw [HWW.out]; exact (heap_alloc_old _ _ (by simp)).trans (heap_alloc_new w2 _)); have q2 := cell_heap (i := 2) hA5 rfl; have qf2 := frozen_of_row w5 _ 2 _ _ hA5; have HO5 := Lib.hid ho5; have HA5 := Lib.hid hA5; have HR5 := Lib.hid hr5; have HB5 := Lib.hid hb5; clear ho5 hA5 hr5 hb5 hg5)
  obtain ⟨W6, hW6⟩ : ∃ W, W = w5.setCell ⟨w2.heap.size + 1, 2, none⟩ (.slice (some ⟨g5, 0, none⟩) n2 c5) := ⟨_, rfl⟩
  have z6 : W6.heap.size = w5.heap.size := by rw [hW6]; simp [World.setCell]
  have hA6 : W6.heap[w2.heap.size + 1]? = some (.cells #[.slice a0 n0 c0, .slice a1 n1 c1, .slice (some ⟨g5, 0, none⟩) n2 c5] 29 (0, 0)) := by rw [hW6]; exact heap_setCell_same w5 _ 2 _ _ _ HA5.out
  have hr6 : W6.heap[w2.heap.size]? = some (.cells #[.slice a0 n0 c0, .slice a1 n1 c1, .slice (some ⟨b, off, none⟩) n2 c2] 29 (0, 0)) := by rw [hW6]; exact (Below.heap_setCell _ _ _ _ (by simp only; omega)).trans HR5.out
  have hO6 : W6.ownsRow W.heap.size 36 7 (.slice (some ⟨g5, 0, none⟩) n2 c5) n2 (flatE encMv R.ms) := by rw [hW6]; exact own_kept HO5.out (grownBy_setCellZ ..) (by omega)
  have hB6 : Below w2.heap.size w2 W6 := by rw [hW6]; exact bset ((show Below w2.heap.size w2 W by rw [HWW.out]; exact bal (bal brefl _) _).trans (HB5.out.mono (by omega))) (by simp only; omega) _
  have hS6 : SrcOk W6 sb := srcOk_below HS2.out hB6 hsb2
  have HRX := Lib.hid (HR2.out.mono (Q := fun b => w1.heap.size + 2 ≤ b ∧ b < w2.heap.size) (fun b hb hl => ⟨hb, hl⟩))
  have HW6 := Lib.hid hW6
  have HA6 := Lib.hid hA6
  have HR6 := Lib.hid hr6
  have HO6 := Lib.hid hO6
  have HB6 := Lib.hid hB6
  have HS6 := Lib.hid hS6
  clear hW6 hA6 hr6 hO6 hB6 hS6 q2 qf2
  rw [← HW6.out]
  have u2 := cell_heap (i := 2) HA6.out rfl
  go_cut [6] (fun s6 wx => s6 = .pointer (some ⟨w2.heap.size + 1, 0, none⟩) ∧ ∃ (qn : Nat) (m : Mv), R.ms[qn]? = some m ∧ wx.heap[w2.heap.size + 1]? = some (.cells #[.slice a0 n0 c0, .slice a1 n1 c1, .slice (some ⟨g5, 0, none⟩) n2 c5] 29 (0, 0)) ∧ wx.heap[w2.heap.size]? = some (.cells #[.slice a0 n0 c0, .slice a1 n1 c1, .slice (some ⟨b, off, none⟩) n2 c2] 29 (0, 0)) ∧ RgIn (fun b => w1.heap.size + 2 ≤ b ∧ b < w2.heap.size) wx (.slice a0 n0 c0) (.slice a1 n1 c1) (.slice (some ⟨b, off, none⟩) n2 c2) R ∧ Sl 7 encMv (fun _ => True) wx (.slice (some ⟨g5, 0, none⟩) n2 c5) (R.ms.set qn { m with a := m.a + 100 }) ∧ SrcOk wx sb ∧ Below w.heap.size w wx ∧ w2.heap.size + 2 ≤ wx.heap.size)
  case first =>
    go_region_with (first | (go_at_call 25; refine (n_any sb n2 _ (srcOk_drewN HS6.out 1) (by omega)).mono ?_; rintro e w7 ⟨q, hq, rfl, hS7, hG7'⟩; obtain ⟨qn, rfl⟩ : ∃ qn : Nat, q = qn := ⟨q.toNat, by omega⟩; have hqn : qn < n2 := (by omega); have hqz : ((qn : Int) < (n2 : Int)) := (by omega); have HG7 := Lib.hid (grownBy_undrew hG7'); have hA7 := (HG7.out.block (w2.heap.size + 1) (by omega) (by simp; omega)).trans HA6.out; have v2 := cell_heap (i := 2) hA7 rfl; have HO7 := Lib.hid (own_kept HO6.out HG7.out (show sb < W.heap.size by omega)); have HSL := Lib.hid (Sl.own encMv_len HO7.out HN2.out (P := fun b => W.heap.size ≤ b) (fun b hb => hb)); obtain ⟨gg, oo, mn, md, mk, mS, mf, mt, ma, he, -, -, hM, -, -, -, -, -, -, m6⟩ := HSL.out.mv hqn; cases he; (rw [Nat.zero_add] at m6); obtain ⟨gg, cc, he, -, -, -, -, -, hfr⟩ := ownZ_shape HO7.out (by omega); cases he; have mfz := hfr (qn * 7 + 6); have hma := (HOK.out.amt _ (List.mem_of_getElem? hM)).1; have hwa : IntKind.i64.wrap (ma + 100) = ma + 100 := IntWalk.i64_in _ (by (simp only at hma); omega); have HM := Lib.hid hM; have HS7 := Lib.hid hS7; have HA7 := Lib.hid hA7; clear hG7' hS7 hM hA7 hfr hma hq))
    all_goals (go_wp2_with fail; go_meet)
    all_goals
      have z7 := HG7.out.size
      have hne1 : w2.heap.size ≠ g5 := by omega
      have hb8 : Below w2.heap.size w7 (w7.setCell ⟨g5, qn * 7 + 6, none⟩ (.int .i64 (ma + 100))) := (Below.refl _ _).setCell (by simp only; omega) _
      have hB7 : Below w.heap.size w (w7.setCell ⟨g5, qn * 7 + 6, none⟩ (.int .i64 (ma + 100))) := ((HB2.out.trans (HB6.out.mono HB2.out.size)).trans (below_of_grown HG7.out hsb (by have := HB2.out.size; omega))).trans (hb8.mono HB2.out.size)
      refine ⟨rfl, qn, ⟨mn, md, mk, mS, mf, mt, ma⟩, HM.out, (Below.heap_setCell _ _ _ _ (by simp only; omega)).trans HA7.out, (Below.heap_setCell _ _ _ _ (by simp only; omega)).trans ((HG7.out.block _ (by omega) (by simp; omega)).trans HR6.out), ((HRX.out.below HB6.out).grown HG7.out (fun b hb => by omega)).grown (grownBy_setCellZ ..) (fun b hb => by omega), (Sl.setElem encMv_len HSL.out (a' := ⟨mn, md, mk, mS, mf, mt, ma + 100⟩) (d := 6) HM.out (by omega) rfl (fun i hi => ?_)).mono (fun _ _ _ => trivial), srcOk_below HS7.out hb8 hsb2, hB7, by simp [World.setCell]; omega⟩
      match i, hi with
      | 0, _ => rfl
      | 1, _ => rfl
      | 2, _ => rfl
      | 3, _ => rfl
      | 4, _ => rfl
      | 5, _ => rfl
      | i + 7, _ => rfl
  case rest =>
    obtain ⟨rfl, qn, m, hM, hA, hr, hR, hSl, hS, hB, hz8⟩ := hcut
    have y0 := cell_heap (i := 0) hA rfl
    have y1 := cell_heap (i := 1) hA rfl
    have y2 := cell_heap (i := 2) hA rfl
    have HRc := Lib.hid hr
    have HRR := Lib.hid hR
    have HSc := Lib.hid hS
    have HBc := Lib.hid hB
    have HSLc := Lib.hid hSl
    have HMc := Lib.hid hM
    clear hA hr hR hS hB hSl hM u2 HA5 HR5 HO5 HB5 HA6 HR6 HO6 HB6 HS6 HW6 HONE HSRC HX HFL HBW HWW
    go_wp2_with fail
    refine (check_any (fun _ => True) _ _ _ ⟨R.secs, R.hs, R.ms.set qn { m with a := m.a + 100 }⟩ wc ⟨HRR.out.any.S, HRR.out.any.H, HSLc.out⟩ hls hlh (by simp; omega)).mono ?_
    rw [bent_move HOK.out HMc.out 100 (by decide)]
    rintro e w9 ⟨rfl, hb9⟩
    have hr9 := (hb9.block _ (by omega)).trans HRc.out
    have z9 := hb9.size
    have HR9 := Lib.hid hr9
    have HRR9 := Lib.hid (HRR.out.below hb9)
    have HS9 := Lib.hid (srcOk_below HSc.out hb9 (by omega))
    have HB9 := Lib.hid (bup HBc.out hb9)
    clear y0 y1 y2 hb9
    have y0 := cell_heap (i := 0) hr9 rfl
    have y1 := cell_heap (i := 1) hr9 rfl
    have y2 := cell_heap (i := 2) hr9 rfl
    clear hr9
    by_cases hm1 : n1 = 0
    · have g1 : ((n1 : Int) == 0) = true := by simp; omega
      subst hm1
      go_wp2_with fail
      refine (sane33_any _).mono ?_
      rintro e w10 ⟨rfl, hb10⟩
      have HB10 := Lib.hid (bup HB9.out hb10)
      clear hb10
      go_wp2
      go_ret
      exact ⟨rfl, HB10.out⟩
    have g1 : ((n1 : Int) == 0) = false := by simp; omega
    obtain ⟨bh, offh, hh0, rfl, -, -, -, -⟩ := HRR9.out.H.at_ (k := 0) (by omega)
    have zx9 : w2.heap.size < w9.heap.size := by omega
    obtain ⟨V, hV⟩ : ∃ V, V = w9.alloc (.cells #[.slice a0 n0 c0, .slice (some ⟨bh, offh, none⟩) n1 c1, .slice (some ⟨b, off, none⟩) n2 c2] 29 (0, 0)) := ⟨_, rfl⟩
    have hbV : Below w9.heap.size w9 V := by rw [hV]; exact bal brefl _
    have zV : V.heap.size = w9.heap.size + 1 := by rw [hV]; simp
    have hsrc : ∀ j u, (flatE encHold R.hs)[j]? = some u → V.cell? ((⟨bh, offh, none⟩ : Addr).add j) = some u := by
      obtain ⟨ao', n', c', q1, q2, q3, q4, q5⟩ := HRR9.out.H.below hbV
      cases q1
      rcases q5 with q5 | ⟨b', off', q6, -, -, q7⟩
      · omega
      · cases q6
        intro j u hj
        rw [add_litZ]
        exact flatE_cells encHold_len R.hs offh q7 j u hj
    have hfl : (flatE encHold R.hs).length = n1 * 3 := by rw [flatE_length encHold_len, HN1.out]
    have HSRC := Lib.hid hsrc
    have HFL := Lib.hid hfl
    have HVV := Lib.hid hV
    have HBV := Lib.hid hbV
    clear hsrc hfl hV hbV
    obtain ⟨X, hX⟩ : ∃ X, flatE encHold R.hs = X := ⟨_, rfl⟩
    have hone : ∀ u ∈ X, u.oneCell' = true := by rw [← hX]; exact oneE oneHold R.hs
    rw [hX] at HSRC HFL
    have HX := Lib.hid hX
    have HONE := Lib.hid hone
    clear hX hone
    go_wp2_with (at_builtin; rw [← HVV.out]; go_must (refine wpList_append_own _ rfl _ _ 26 rfl V.heap.size 54 j1 (.agg #[.int .i64 0, .int .i64 0, .int .i64 0]) 3 24 Try.underlying26 ji jz0 jz1 jz2 rfl (by decide) _ _ _ rfl (World.ownsRow_nil _ _ _ _) ⟨bh, offh, none⟩ n1 c1 X rfl HFL.out HSRC.out HONE.out (by unfold maxLen; omega) (by omega) (Nat.le_refl _) ?_); intro v5 w5 ho5 hg5 _; rw [Nat.zero_add, List.nil_append, ← HX.out] at ho5; have hb5 : Below V.heap.size V w5 := ⟨hg5.os, hg5.tape, hg5.output, hg5.size, fun k hk => hg5.block k hk (show some k ≠ none from by simp)⟩; have z5 := hb5.size; obtain ⟨g6, c6, rfl, hg60, hg61, -, -, -, -⟩ := ownZ_shape ho5 (by omega); have hA5 : w5.heap[w9.heap.size]? = some (.cells #[.slice a0 n0 c0, .slice (some ⟨bh, offh, none⟩) n1 c1, .slice (some ⟨b, off, none⟩) n2 c2] 29 (0, 0)) := (hb5.block _ (by omega)).trans (by rw [HVV.out]; exact heap_alloc_new w9 _); have q1 := cell_heap (i := 1) hA5 rfl; have qf1 := frozen_of_row w5 _ 1 _ _ hA5; have HO5 := Lib.hid ho5; have HA5 := Lib.hid hA5; have HB5 := Lib.hid hb5; clear ho5 hA5 hb5 hg5)
    obtain ⟨V6, hV6⟩ : ∃ V6, V6 = w5.setCell ⟨w9.heap.size, 1, none⟩ (.slice (some ⟨g6, 0, none⟩) n1 c6) := ⟨_, rfl⟩
    have z6' : V6.heap.size = w5.heap.size := by rw [hV6]; simp [World.setCell]
    have hA6 : V6.heap[w9.heap.size]? = some (.cells #[.slice a0 n0 c0, .slice (some ⟨g6, 0, none⟩) n1 c6, .slice (some ⟨b, off, none⟩) n2 c2] 29 (0, 0)) := by rw [hV6]; exact heap_setCell_same w5 _ 1 _ _ _ HA5.out
    have hO6 : V6.ownsRow V.heap.size 54 3 (.slice (some ⟨g6, 0, none⟩) n1 c6) n1 (flatE encHold R.hs) := by rw [hV6]; exact own_kept HO5.out (grownBy_setCellZ ..) (by omega)
    have hB6 : Below w9.heap.size w9 V6 := by rw [hV6]; exact bset (HBV.out.trans (HB5.out.mono (by omega))) (by simp only; omega) _
    have hS6 : SrcOk V6 sb := srcOk_below HS9.out hB6 (by omega)
    have HV6 := Lib.hid hV6
    have HA6 := Lib.hid hA6
    have HO6 := Lib.hid hO6
    have HB6 := Lib.hid hB6
    have HS6 := Lib.hid hS6
    clear hV6 hA6 hO6 hB6 hS6 q1 qf1 y0 y1 y2
    rw [← HV6.out]
    have u1 := cell_heap (i := 1) HA6.out rfl
    have hsbV : sb < V.heap.size := by omega
    go_cut [7] (fun s7 wx => s7 = .pointer (some ⟨w9.heap.size, 0, none⟩) ∧ ∃ (qn : Nat) (m : Hold), R.hs[qn]? = some m ∧ wx.heap[w9.heap.size]? = some (.cells #[.slice a0 n0 c0, .slice (some ⟨g6, 0, none⟩) n1 c6, .slice (some ⟨b, off, none⟩) n2 c2] 29 (0, 0)) ∧ RgIn (fun b => w1.heap.size + 2 ≤ b ∧ b < w2.heap.size) wx (.slice a0 n0 c0) (.slice (some ⟨bh, offh, none⟩) n1 c1) (.slice (some ⟨b, off, none⟩) n2 c2) R ∧ Sl 3 encHold (fun _ => True) wx (.slice (some ⟨g6, 0, none⟩) n1 c6) (R.hs.set qn { m with a := m.a + 1 }) ∧ Below w.heap.size w wx ∧ w9.heap.size < wx.heap.size)
    case first =>
      go_region_with (first | (go_at_call 25; refine (n_any sb n1 _ (srcOk_drewN HS6.out 1) (by omega)).mono ?_; rintro e w7 ⟨q, hq, rfl, hS7, hG7'⟩; obtain ⟨qn, rfl⟩ : ∃ qn : Nat, q = qn := ⟨q.toNat, by omega⟩; have hqn : qn < n1 := (by omega); have hqz : ((qn : Int) < (n1 : Int)) := (by omega); have HG7 := Lib.hid (grownBy_undrew hG7'); have hA7 := (HG7.out.block w9.heap.size (by omega) (by simp; omega)).trans HA6.out; have v1 := cell_heap (i := 1) hA7 rfl; have HO7 := Lib.hid (own_kept HO6.out HG7.out hsbV); have HSL := Lib.hid (Sl.own encHold_len HO7.out HN1.out (P := fun b => V.heap.size ≤ b) (fun b hb => hb)); obtain ⟨gg, oo, xs, xh, xa, he, -, -, hM, -, -, m2⟩ := HSL.out.hold hqn; cases he; (rw [Nat.zero_add] at m2); obtain ⟨gg, cc, he, -, -, -, -, -, hfr⟩ := ownZ_shape HO7.out (by omega); cases he; have mfz := hfr (qn * 3 + 2); have hma := HOK.out.hok.le (List.mem_of_getElem? hM); have hmp := HOK.out.hok.pos _ (List.mem_of_getElem? hM); have hwa : IntKind.i64.wrap (xa + 1) = xa + 1 := IntWalk.i64_in _ (by (simp only at hma hmp); omega); have HM := Lib.hid hM; have HA7 := Lib.hid hA7; clear hG7' hS7 hM hA7 hfr hma hmp hq))
      all_goals (go_wp2_with fail; go_meet)
      all_goals
        have z7 := HG7.out.size
        have hb8 : Below w9.heap.size w7 (w7.setCell ⟨g6, qn * 3 + 2, none⟩ (.int .i64 (xa + 1))) := (Below.refl _ _).setCell (by simp only; omega) _
        have hB7 : Below w.heap.size w (w7.setCell ⟨g6, qn * 3 + 2, none⟩ (.int .i64 (xa + 1))) := ((HB9.out.trans (HB6.out.mono HB9.out.size)).trans (below_of_grown HG7.out hsb (by have := HB9.out.size; omega))).trans (hb8.mono HB9.out.size)
        refine ⟨rfl, qn, ⟨xs, xh, xa⟩, HM.out, (Below.heap_setCell _ _ _ _ (by simp only; omega)).trans HA7.out, (((HRR9.out.below HB6.out).grown HG7.out (fun b hb => by omega)).grown (grownBy_setCellZ ..) (fun b hb => by omega)), (Sl.setElem encHold_len HSL.out (a' := ⟨xs, xh, xa + 1⟩) (d := 2) HM.out (by omega) rfl (fun i hi => ?_)).mono (fun _ _ _ => trivial), hB7, by simp [World.setCell]; omega⟩
        match i, hi with
        | 0, _ => rfl
        | 1, _ => rfl
        | i + 3, _ => rfl
    case rest =>
      obtain ⟨rfl, qh, mh, hM, hA, hR, hSl, hB, hz10⟩ := hcut
      have hbad := bent_hold HOK.out (set_ne hM (b := { mh with a := mh.a + 1 }) (by intro e; have := congrArg Hold.a e; simp only at this; omega))
      have y0 := cell_heap (i := 0) hA rfl
      have y1 := cell_heap (i := 1) hA rfl
      have y2 := cell_heap (i := 2) hA rfl
      have HAc := Lib.hid hA
      have HRR' := Lib.hid (show RgIn (fun _ => True) wc (.slice a0 n0 c0) (.slice (some ⟨g6, 0, none⟩) n1 c6) (.slice (some ⟨b, off, none⟩) n2 c2) ⟨R.secs, R.hs.set qh { mh with a := mh.a + 1 }, R.ms⟩ from ⟨hR.any.S, hSl, hR.any.M⟩)
      have HBc' := Lib.hid hB
      have HBAD := Lib.hid hbad
      have hlh' : (R.hs.set qh { mh with a := mh.a + 1 }).length ≤ 1000000 := by rw [List.length_set]; exact hlh
      clear hA hR hSl hB hM hbad u1
      go_wp2_with fail
      refine (check_any _ _ _ _ _ wc HRR'.out hls hlh' hlm).mono ?_
      rw [HBAD.out]
      rintro e w11 ⟨rfl, hb11⟩
      have hA11 := (hb11.block _ hz10).trans HAc.out
      clear y0 y1 y2
      have y0 := cell_heap (i := 0) hA11 rfl
      have y1 := cell_heap (i := 1) hA11 rfl
      have y2 := cell_heap (i := 2) hA11 rfl
      have HR11 := Lib.hid (HRR'.out.below hb11)
      have HB11 := Lib.hid (bup HBc'.out hb11)
      have HZ := Lib.hid (show rgDebt ⟨R.secs, R.hs.set qh { mh with a := mh.a + 1 }, R.ms⟩ = 0 by unfold rgDebt; rw [HBAD.out]; simp)
      clear hb11 hA11
      go_wp2_with fail
      refine (rdebt_any _ _ _ _ _ w11 HR11.out hls hlh' hlm).mono ?_
      rw [HZ.out]
      rintro e w12 ⟨rfl, hb12⟩
      have HB12 := Lib.hid (bup HB11.out hb12)
      clear hb12 y0 y1 y2
      go_wp2_with fail
      refine (sane33_any _).mono ?_
      rintro e w13 ⟨rfl, hb13⟩
      have HB13 := Lib.hid (bup HB12.out hb13)
      clear hb13
      go_wp2
      go_ret
      exact ⟨rfl, HB13.out⟩
end Go.Proofs.Ytjfngogfiafipaa
