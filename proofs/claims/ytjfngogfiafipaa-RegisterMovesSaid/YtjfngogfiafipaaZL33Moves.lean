/- RegisterMoves: the walk. Printed by wip/gen/l33moves.py. -/
import Derived.Test.YtjfngogfiafipaaZL33PlB
namespace Go.Proofs.Ytjfngogfiafipaa
open Go.RowKit
set_option linter.unusedVariables false
set_option linter.unusedSimpArgs false
set_option maxHeartbeats 16000000 in
set_option maxRecDepth 100000 in
theorem moves_walk (k0 : Option Addr) (len0 cap0 : Nat) (w : World) (h1 : len0 ≤ cap0) (h2 : cap0 ≤ maxLen) (hz : len0 = 0 ∨ ∃ b off, k0 = some ⟨b, off, none⟩ ∧ ∀ i, i < len0 → ∃ z : Int, w.cell? ⟨b, off + i, none⟩ = some (.int .i64 z)) :
    Calls Try.prog 6 #[.slice k0 len0 cap0] w fun e w' => e = .returned (.bool true) ∧ Below w.heap.size w w' := by
  go_enter Try.func6, Try.ntmps6
  go_wp2_with fail
  refine (new_any k0 len0 cap0 w h1 h2 hz).mono ?_
  rintro e w1 ⟨sb, rfl, hsb, hS1, hB1⟩
  clear hz
  go_wp2_with fail
  refine (sreg_any sb 8 w1 hS1 (by omega)).mono ?_
  rintro e w2 ⟨vs, vh, vm, R, day, rfl, hlike, hml, hdl, hR, hS2, hG2⟩
  have hlt := srcOk_lt hS1
  have hB2 : Below w.heap.size w w2 := hB1.trans (below_of_grown hG2 hsb hB1.size)
  have z2 := hG2.size
  obtain ⟨a0, n0, c0, rfl, -, -, -⟩ := hR.S.shape
  obtain ⟨a1, n1, c1, rfl, -, -, -⟩ := hR.H.shape
  obtain ⟨a2, n2, c2, rfl, -, -, -⟩ := hR.M.shape
  have HR2 := Lib.hid hR
  clear hR hG2 hB1 hS1
  go_wp2_with fail
  refine (range_any sb 1 3 _ (srcOk_alloc hS2 _) (by decide) (by decide) (by decide)).mono ?_
  rintro e w3 ⟨id, hid, rfl, hS3, hG3⟩
  go_wp2_with fail
  refine (range_any sb 1 4 _ hS3 (by decide) (by decide) (by decide)).mono ?_
  rintro e w4 ⟨a, ha, rfl, hS4, hG4⟩
  go_wp2_with fail
  refine (range_any sb 1 4 _ hS4 (by decide) (by decide) (by decide)).mono ?_
  rintro e w5 ⟨b, hb, rfl, hS5, hG5⟩
  go_wp2_with fail
  refine (pick_lit sb [100, 300, 1000] _ _ _ _ hS5 (by decide) (by decide) rfl rfl rfl).mono ?_
  rintro e w6 ⟨n, hn, rfl, hS6, hG6⟩
  have hn' : 100 ≤ n ∧ n ≤ 1000 := by simp at hn; omega
  have hG : (w2.alloc (.cells #[.slice a0 n0 c0, .slice a1 n1 c1, .slice a2 n2 c2] 29)).grownBy w6 (some sb) := grownBy_trans hG3 (grownBy_trans hG4 (grownBy_trans hG5 hG6))
  have hsb2 : sb < w2.heap.size := by omega
  have hx6 : w6.heap[w2.heap.size]? = some (.cells #[.slice a0 n0 c0, .slice a1 n1 c1, .slice a2 n2 c2] 29 (0, 0)) := (hG.block _ (by simp) (by simp; omega)).trans (heap_alloc_new w2 _)
  have hR6 : RgIn (fun _ => True) w6 (.slice a0 n0 c0) (.slice a1 n1 c1) (.slice a2 n2 c2) R := ((HR2.out.below (bal brefl _)).grown hG (fun b hb => by omega)).any
  have hB6 : Below w.heap.size w w6 := (hB2.alloc (by have := hB2.size; omega) _).trans (below_of_grown hG hsb (by have := hB2.size; simp; omega))
  have HX6 := Lib.hid hx6
  have HR6 := Lib.hid hR6
  have HB6 := Lib.hid hB6
  have HLIKE := Lib.hid hlike
  have z6 : w2.heap.size < w6.heap.size := by have := hG.size; simp at this; omega
  clear hn hG hG3 hG4 hG5 hG6 hS2 hS3 hS4 hS5 hS6 hx6 hR6 hB6 hB2 hlike HR2
  have b0 := cell_heap (i := 0) HX6.out rfl
  have b1 := cell_heap (i := 1) HX6.out rfl
  have b2 := cell_heap (i := 2) HX6.out rfl
  have hls : R.secs.length ≤ 1000000 := by have := HLIKE.out.ok.ls; omega
  have hlh : R.hs.length ≤ 1000000 := by have := HLIKE.out.ok.hl; omega
  have hlm : R.ms.length ≤ 1000000 := by omega
  obtain ⟨E, hE⟩ : ∃ E, rmE R ⟨0, day, 2, id, a, b, n⟩ = E := ⟨_, rfl⟩
  have hC := rTransfer_any (fun _ => True) _ _ _ R day id a b n w6 HR6.out hls hlh hlm (fun _ _ => trivial)
  rw [hE] at hC
  obtain ⟨X, hX⟩ : ∃ X, rmR R ⟨0, day, 2, id, a, b, n⟩ = X := ⟨_, rfl⟩
  rw [hX] at hC
  have HC := Lib.hid hC
  have HE := Lib.hid hE
  have HXX := Lib.hid hX
  clear hC hE hX
  go_wp2_with fail
  refine HC.out.mono ?_
  rintro e w7 hg
  obtain ⟨p0, q0, l0, p1, q1, l1, p2, q2, l2, rfl, hq, hb7⟩ := hg.shape
  have HQ7 := Lib.hid hq
  have HB7 := Lib.hid (bup HB6.out hb7)
  have HX7 := Lib.hid ((hb7.block _ z6).trans HX6.out)
  have HR7 := Lib.hid (HR6.out.below hb7)
  have z7 := hb7.size
  clear hg hq hb7 b0 b1 b2
  by_cases h0 : E = 0
  rotate_left
  · have hv := rmE_vals (m := ⟨0, day, 2, id, a, b, n⟩) HLIKE.out.ok (by omega)
    rw [HE.out] at hv
    have g0 : (E != 0) = true := by simpa using h0
    have g1 : (E == 0) = false := by simpa using h0
    have g2 : (E != 78) = true := by simpa using hv.1
    have g3 : (E == 78) = false := by simpa using hv.1
    have g4 : (E != 3) = true := by simpa using hv.2
    have g5 : (E == 3) = false := by simpa using hv.2
    clear hv
    go_wp2_with fail
    refine (sane33_any _).mono ?_
    rintro e w8 ⟨rfl, hb8⟩
    have HB8 := Lib.hid (bup (bal HB7.out _) hb8)
    clear hb8
    go_wp2
    go_ret
    exact ⟨rfl, HB8.out⟩
  subst h0
  have hth := there_back (day := day) HLIKE.out.ok (by omega) ha hb HE.out
  have HTB := Lib.hid hth
  have hb1' := hth.back
  have hb2' := hth.same
  have hb3' := hth.froms
  have hb4' := hth.tos
  have hb5' := hth.debt
  have hb6' := hth.ok
  have hb7' := hth.bd
  have hb8' := hth.ok2
  rw [HXX.out] at hb1' hb2' hb3' hb4' hb5' hb6' hb8'
  have hlsX : X.secs.length ≤ 1000000 := by have := hb6'.ls; omega
  have hlhX : X.hs.length ≤ 1000000 := by have := hb6'.hl; omega
  have hlmX : X.ms.length ≤ 1000000 := by have := hb6'.lm; omega
  have hC := fun W (hW : Below (w7.alloc (.cells #[.slice p0 q0 l0, .slice p1 q1 l1, .slice p2 q2 l2] 29 (0, 0))).heap.size (w7.alloc (.cells #[.slice p0 q0 l0, .slice p1 q1 l1, .slice p2 q2 l2] 29 (0, 0))) W) => rTransfer_any (fun _ => True) _ _ _ X day id b a n W ((HQ7.out.below (bal brefl _)).below hW) hlsX hlhX hlmX (fun _ _ => trivial)
  rw [hb1'] at hC
  obtain ⟨Y, hY⟩ : ∃ Y, rmR X ⟨0, day, 2, id, b, a, n⟩ = Y := ⟨_, rfl⟩
  rw [hY] at hC hb2' hb8'
  have HC2 := Lib.hid hC
  obtain ⟨u, hu⟩ : ∃ u, rgHeld R id a = u := ⟨_, rfl⟩
  obtain ⟨v, hv⟩ : ∃ v, rgHeld R id b = v := ⟨_, rfl⟩
  obtain ⟨D, hD⟩ : ∃ D, rgDebt R = D := ⟨_, rfl⟩
  rw [hu, hv] at hb7'
  rw [hu] at hb3'
  rw [hv] at hb4'
  rw [hD] at hb5'
  obtain ⟨u0, u1, v0, v1⟩ := hb7'
  have HU := Lib.hid hu
  have HV := Lib.hid hv
  have HD := Lib.hid hD
  have HF := Lib.hid (And.intro hb2' (And.intro hb3' (And.intro hb4' (And.intro hb5' (And.intro hb6' hb8')))))
  clear hth hC hY hu hv hD hb1' hb2' hb3' hb4' hb5' hb6' hb8' HTB
  go_wp2_with fail
  refine (HC2.out _ brefl).mono ?_
  rintro e w8 hg
  obtain ⟨f0, r0, s0, f1, r1, s1, f2, r2, s2, rfl, hq, hb8⟩ := hg.shape
  have HQ8 := Lib.hid hq
  have HB8 := Lib.hid (bup (bal HB7.out _) hb8)
  have hx8 : w8.heap[w2.heap.size]? = some (.cells #[.slice a0 n0 c0, .slice a1 n1 c1, .slice a2 n2 c2] 29 (0, 0)) := (hb8.block _ (by simp; omega)).trans ((heap_alloc_old w7 _ (by omega)).trans HX7.out)
  have hy8 := box_below hb8
  have HR8 := Lib.hid ((HR7.out.below (bal brefl _)).below hb8)
  have HQ7' := Lib.hid ((HQ7.out.below (bal brefl _)).below hb8)
  have z8 := hb8.size
  simp only [World.size_alloc] at z8
  obtain ⟨W9, hW9⟩ : ∃ W, W = w8.alloc (.cells #[.slice f0 r0 s0, .slice f1 r1 s1, .slice f2 r2 s2] 29 (0, 0)) := ⟨_, rfl⟩
  have hx9 : W9.heap[w2.heap.size]? = some (.cells #[.slice a0 n0 c0, .slice a1 n1 c1, .slice a2 n2 c2] 29 (0, 0)) := by rw [hW9]; exact (heap_alloc_old w8 _ (by omega)).trans hx8
  have hy9 : W9.heap[w7.heap.size]? = some (.cells #[.slice p0 q0 l0, .slice p1 q1 l1, .slice p2 q2 l2] 29 (0, 0)) := by rw [hW9]; exact (heap_alloc_old w8 _ (by omega)).trans hy8
  have hz9 : W9.heap[w8.heap.size]? = some (.cells #[.slice f0 r0 s0, .slice f1 r1 s1, .slice f2 r2 s2] 29 (0, 0)) := by rw [hW9]; exact heap_alloc_new w8 _
  have hb9 : Below w8.heap.size w8 W9 := by rw [hW9]; exact bal brefl _
  have x0 := up_cell (cell_heap (i := 0) hx9 rfl)
  have x1 := up_cell (cell_heap (i := 1) hx9 rfl)
  have x2 := up_cell (cell_heap (i := 2) hx9 rfl)
  have y0 := up_cell (cell_heap (i := 0) hy9 rfl)
  have y1 := up_cell (cell_heap (i := 1) hy9 rfl)
  have y2 := up_cell (cell_heap (i := 2) hy9 rfl)
  have z0 := up_cell (cell_heap (i := 0) hz9 rfl)
  have z1 := up_cell (cell_heap (i := 1) hz9 rfl)
  have z2' := up_cell (cell_heap (i := 2) hz9 rfl)
  have hlhY : Y.hs.length ≤ 1000000 := by have := HF.out.2.2.2.2.2.hl; omega
  have KH := Lib.hid (fun W (hW : Below W9.heap.size W9 W) => (show Calls Try.prog 19 #[.slice f1 r1 s1, .slice a1 n1 c1] W (fun e w' => e = .returned (.bool true) ∧ Below W.heap.size W w') by
    have h := fhold_any (fun _ => True) (fun _ => True) _ _ Y.hs R.hs W ((HQ8.out.below hb9).below hW).H ((HR8.out.below hb9).below hW).H hlhY
    rw [eqHs_iff.2 HF.out.1] at h
    exact h.mono fun _ _ ⟨h1, nq, h2⟩ => ⟨h1, by rw [h2]; exact below_drewZ brefl nq⟩))
  have K1 := Lib.hid (fun W (hW : Below W9.heap.size W9 W) => (show Calls Try.prog 16 #[.agg #[.slice p0 q0 l0, .slice p1 q1 l1, .slice p2 q2 l2], .int .i64 id, .int .i64 a] W (fun e w' => e = .returned (.int .i64 (u - n)) ∧ Below W.heap.size W w') by
    have h := rheld_any (fun _ => True) _ _ _ X id a W ((HQ7'.out.below hb9).below hW) hlsX hlhX hlmX
    rw [HF.out.2.1] at h
    exact h))
  have K2 := Lib.hid (fun W (hW : Below W9.heap.size W9 W) => (show Calls Try.prog 16 #[.agg #[.slice a0 n0 c0, .slice a1 n1 c1, .slice a2 n2 c2], .int .i64 id, .int .i64 a] W (fun e w' => e = .returned (.int .i64 u) ∧ Below W.heap.size W w') by
    have h := rheld_any (fun _ => True) _ _ _ R id a W ((HR8.out.below hb9).below hW) hls hlh hlm
    rw [HU.out] at h
    exact h))
  have K3 := Lib.hid (fun W (hW : Below W9.heap.size W9 W) => (show Calls Try.prog 16 #[.agg #[.slice p0 q0 l0, .slice p1 q1 l1, .slice p2 q2 l2], .int .i64 id, .int .i64 b] W (fun e w' => e = .returned (.int .i64 (v + n)) ∧ Below W.heap.size W w') by
    have h := rheld_any (fun _ => True) _ _ _ X id b W ((HQ7'.out.below hb9).below hW) hlsX hlhX hlmX
    rw [HF.out.2.2.1] at h
    exact h))
  have K4 := Lib.hid (fun W (hW : Below W9.heap.size W9 W) => (show Calls Try.prog 16 #[.agg #[.slice a0 n0 c0, .slice a1 n1 c1, .slice a2 n2 c2], .int .i64 id, .int .i64 b] W (fun e w' => e = .returned (.int .i64 v) ∧ Below W.heap.size W w') by
    have h := rheld_any (fun _ => True) _ _ _ R id b W ((HR8.out.below hb9).below hW) hls hlh hlm
    rw [HV.out] at h
    exact h))
  have K5 := Lib.hid (fun W (hW : Below W9.heap.size W9 W) => (show Calls Try.prog 21 #[.agg #[.slice p0 q0 l0, .slice p1 q1 l1, .slice p2 q2 l2]] W (fun e w' => e = .returned (.int .i64 D) ∧ Below W.heap.size W w') by
    have h := rdebt_any (fun _ => True) _ _ _ X W ((HQ7'.out.below hb9).below hW) hlsX hlhX hlmX
    rw [HF.out.2.2.2.1] at h
    exact h))
  have K6 := Lib.hid (fun W (hW : Below W9.heap.size W9 W) => (show Calls Try.prog 21 #[.agg #[.slice a0 n0 c0, .slice a1 n1 c1, .slice a2 n2 c2]] W (fun e w' => e = .returned (.int .i64 D) ∧ Below W.heap.size W w') by
    have h := rdebt_any (fun _ => True) _ _ _ R W ((HR8.out.below hb9).below hW) hls hlh hlm
    rw [HD.out] at h
    exact h))
  have KS := Lib.hid (fun W (hW : Below W9.heap.size W9 W) => sane33_any W)
  have hw1 : IntKind.i64.wrap (u - n) = u - n := IntWalk.i64_in _ (by omega)
  have hw2 : IntKind.i64.wrap (v + n) = v + n := IntWalk.i64_in _ (by omega)
  have HB9 := Lib.hid (bup HB8.out hb9)
  have HW9 := Lib.hid hW9
  clear hg hq hb8 hx8 hy8 hW9 hx9 hy9 hz9 hb9 u0 u1 v0 v1 ha hb hid
  go_upto_region 8 with fail
  rw [← HW9.out]
  (refine wp_region_up (by kernel_rfl) (by kernel_rfl) ?_); (repeat (go_big_quiet_step ((first | (go_at_call 19; (with_reducible refine (KH.out _ (up_prop _)).mono ?_); exact fun _ _ hh => ⟨hh.1, ⟨_, bup (Subtype.property _) hh.2⟩, rfl⟩) | (go_at_call 16; (with_reducible refine (K1.out _ (up_prop _)).mono ?_); exact fun _ _ hh => ⟨hh.1, ⟨_, bup (Subtype.property _) hh.2⟩, rfl⟩) | (go_at_call 16; (with_reducible refine (K2.out _ (up_prop _)).mono ?_); exact fun _ _ hh => ⟨hh.1, ⟨_, bup (Subtype.property _) hh.2⟩, rfl⟩) | (go_at_call 16; (with_reducible refine (K3.out _ (up_prop _)).mono ?_); exact fun _ _ hh => ⟨hh.1, ⟨_, bup (Subtype.property _) hh.2⟩, rfl⟩) | (go_at_call 16; (with_reducible refine (K4.out _ (up_prop _)).mono ?_); exact fun _ _ hh => ⟨hh.1, ⟨_, bup (Subtype.property _) hh.2⟩, rfl⟩) | (go_at_call 21; (with_reducible refine (K5.out _ (up_prop _)).mono ?_); exact fun _ _ hh => ⟨hh.1, ⟨_, bup (Subtype.property _) hh.2⟩, rfl⟩) | (go_at_call 21; (with_reducible refine (K6.out _ (up_prop _)).mono ?_); exact fun _ _ hh => ⟨hh.1, ⟨_, bup (Subtype.property _) hh.2⟩, rfl⟩) | (go_at_call 15; (with_reducible refine (KS.out _ (up_prop _)).mono ?_); exact fun _ _ hh => ⟨hh.1, ⟨_, bup (Subtype.property _) hh.2⟩, rfl⟩))))); (refine wpQuiet_nil ?_); (rintro _ ⟨⟨w10, hb10⟩, rfl⟩)
  go_wp2
  go_ret
  exact ⟨rfl, bup HB9.out hb10⟩
end Go.Proofs.Ytjfngogfiafipaa
