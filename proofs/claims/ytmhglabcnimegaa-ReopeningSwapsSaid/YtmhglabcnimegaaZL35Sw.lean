/- ReopeningSwaps: the walk. -/
import Derived.Test.YtmhglabcnimegaaZMkw
import Derived.Test.YtmhglabcnimegaaZL35P
namespace Go.Proofs.Ytmhglabcnimegaa
open Go.RowKit
set_option linter.unusedVariables false
set_option linter.unusedSimpArgs false
theorem sane35_any (w : World) : Calls Try.prog 20 #[] w fun e w' => e = .returned (.bool true) ∧ Below w.heap.size w w' := by
  have h := given_any 1 2 3 2 400 1000 w
  rw [show gvA 3 2 400 1000 = 1200 by decide, show gvB 3 2 400 1000 = 300 by decide] at h
  go_enter Try.func20, Try.ntmps20
  go_wp2_with (go_at_call 84; refine h.mono ?_; rintro e w1 ⟨rfl, hb1⟩)
  go_ret
  exact ⟨rfl, hb1⟩
set_option maxHeartbeats 16000000 in
set_option maxRecDepth 100000 in
theorem swaps_walk (a0 : Option Addr) (len0 cap0 : Nat) (w : World) (h1 : len0 ≤ cap0) (h2 : cap0 ≤ maxLen) (hz : len0 = 0 ∨ ∃ b off, a0 = some ⟨b, off, none⟩ ∧ ∀ i, i < len0 → ∃ z : Int, w.cell? ⟨b, off + i, none⟩ = some (.int .i64 z)) :
    Calls Try.prog 3 #[.slice a0 len0 cap0] w fun e w' => e = .returned (.bool true) ∧ Below w.heap.size w w' := by
  go_enter Try.func3, Try.ntmps3
  go_wp2_with fail
  refine (new_any a0 len0 cap0 w h1 h2 hz).mono ?_
  rintro e w1 ⟨sb, rfl, hsb, hS1, hB1⟩
  clear hz
  go_wp2_with fail
  refine (market_any sb _ hS1).mono ?_
  rintro e w2 ⟨vs, vh, vm, R, rfl, hMR, hR2, hS2, hG2⟩
  obtain ⟨p0, i0, j0, rfl, -, -, -⟩ := hR2.S.shape
  obtain ⟨p1, i1, j1, rfl, -, -, -⟩ := hR2.H.shape
  obtain ⟨p2, i2, j2, rfl, -, -, -⟩ := hR2.M.shape
  have hlt1 := srcOk_lt hS1
  have HMR := Lib.hid hMR
  have HR2 := Lib.hid hR2
  have hB2 : Below w.heap.size w w2 := hB1.trans (below_of_grown hG2 hsb hB1.size)
  have z2 := hG2.size
  have HB2 := Lib.hid hB2
  have hlt2 := srcOk_lt hS2
  have HS2 := Lib.hid (srcOk_alloc hS2 (.cells #[.slice p0 i0 j0, .slice p1 i1 j1, .slice p2 i2 j2] 29))
  clear hMR hR2 hB1 hG2 hB2 hS2 hS1
  go_wp2_with fail
  refine (range_any sb 1 9 _ HS2.out (by decide) (by decide) (by decide)).mono ?_
  rintro e w3 ⟨num, hnum, rfl, hS3, hG3⟩
  go_wp2_with fail
  refine (range_any sb 1 9 _ hS3 (by decide) (by decide) (by decide)).mono ?_
  rintro e w4 ⟨den, hden, rfl, hS4, hG4⟩
  have hG24 := grownBy_trans hG3 hG4
  have HR4 := Lib.hid ((HR2.out.mono (Q := fun b => w1.heap.size + 2 ≤ b) (fun b h _ => h)).grown (grownBy_trans (World.grownBy_alloc w2 _ _) hG24) (fun b hb => by omega))
  have hx4 := (box_grownN hG24 hlt2)
  have z4 := hx4.2
  have HX4 := Lib.hid hx4.1
  have HB4 := Lib.hid ((bal HB2.out _).trans (below_of_grown hG24 hsb (by have := HB2.out.size; simp; omega)))
  have HS4 := Lib.hid hS4
  have hl4 := srcOk_lt hS4
  clear hS3 hG3 hG4 hG24 hx4 hS4
  go_wp2_with fail
  refine (range_any sb 1 4 _ (srcOk_alloc HS4.out _) (by decide) (by decide) (by decide)).mono ?_
  rintro e w5 ⟨h, hh, rfl, hS5, hG5⟩
  go_wp2_with fail
  refine (pick_lit sb [100, 500, 1000] _ _ _ _ hS5 (by decide) (by decide) rfl rfl rfl).mono ?_
  rintro e w6 ⟨n, hn, rfl, hS6, hG6⟩
  have hG46 := grownBy_trans hG5 hG6
  have hy6 := (box_grownN hG46 hl4)
  have z6 := hy6.2
  have HY6 := Lib.hid hy6.1
  have hx6 := (grownBy_trans (World.grownBy_alloc w4 _ _) hG46).block w2.heap.size z4 (by simp; omega)
  have HX6 := Lib.hid (hx6.trans HX4.out)
  have HR6 := Lib.hid (HR4.out.grown (grownBy_trans (World.grownBy_alloc w4 _ _) hG46) (fun b hb => by omega))
  have HB6 := Lib.hid ((bal HB4.out _).trans (below_of_grown hG46 hsb (by have := HB4.out.size; simp; omega)))
  have hn2 : n = 100 ∨ n = 500 ∨ n = 1000 := by simpa using hn
  obtain ⟨hl0, hl1, hl2⟩ := ok_len HMR.out.ok
  obtain ⟨un, ra, ix, hf2, hun, hcase⟩ := sw_plain HMR.out hh hn hnum hden
  have HF2 := Lib.hid hf2
  have hnn : 0 ≤ n * num ∧ n * num ≤ 9000 := by rcases hn2 with rfl | rfl | rfl <;> omega
  have KS := Lib.hid (fun U (hU : Below w6.heap.size w6 U) => swap_any (fun b => w1.heap.size + 2 ≤ b) _ _ _ R 5 1 2 num den h n U (HR6.out.below hU) hl0 hl1 hl2 (fun b hb => by have := hU.size; omega))
  have KH := Lib.hid (fun s U (hU : Below w6.heap.size w6 U) => fHeld_any (fun b => w1.heap.size + 2 ≤ b) _ _ _ R s h U (HR6.out.below hU) hl0 hl1 hl2)
  have x0 := cell_heap (i := 0) HX6.out rfl
  have x1 := cell_heap (i := 1) HX6.out rfl
  have x2 := cell_heap (i := 2) HX6.out rfl
  have y0 := cell_heap (i := 0) HY6.out rfl
  have y1 := cell_heap (i := 1) HY6.out rfl
  have y2 := cell_heap (i := 2) HY6.out rfl
  have y3 := cell_heap (i := 3) HY6.out rfl
  clear hS5 hG5 hG6 hG46 hy6 hx6 hn hf2 hS6
  rcases hcase with ⟨hE, hlt⟩ | ⟨hE, hL⟩
  · rw [hE] at KS
    have KS2 := Lib.hid (KS.out w6 brefl)
    obtain ⟨V, hV⟩ : ∃ V, rgHeld R 1 h = V := ⟨_, rfl⟩
    have KH2 := Lib.hid (KH.out 1)
    rw [hV] at KH2 hlt
    clear hE KS KH hV
    go_wp2_with fail
    refine KS2.out.mono ?_
    rintro e w7 ⟨us, uh, um, rfl, hQ7, hb7⟩
    obtain ⟨g0, m0, d0, rfl, -, -, -⟩ := hQ7.S.shape
    obtain ⟨g1, m1, d1, rfl, -, -, -⟩ := hQ7.H.shape
    obtain ⟨g2, m2, d2, rfl, -, -, -⟩ := hQ7.M.shape
    have X0 := keepB hb7 x0
    have X1 := keepB hb7 x1
    have X2 := keepB hb7 x2
    have hB7 := bal (bup HB6.out hb7) (.cells #[.slice g0 m0 d0, .slice g1 m1 d1, .slice g2 m2 d2] 29)
    have HB7 := Lib.hid hB7
    have hne : w2.heap.size < w7.heap.size := World.block_lt_of_cell? _ _ X0
    have HU7 := Lib.hid (bal hb7 (.cells #[.slice g0 m0 d0, .slice g1 m1 d1, .slice g2 m2 d2] 29))
    clear hb7 hQ7 x0 x1 x2 y0 y1 y2 y3 hB7
    go_wp2_with (first
      | (go_at_call 19; refine (KH2.out _ HU7.out).mono ?_; rintro e w8 ⟨rfl, hb8⟩)
      | (go_at_call 20; refine (sane35_any _).mono ?_; rintro e w9 ⟨rfl, hb9⟩))
    go_ret
    exact ⟨rfl, bup (bup HB7.out hb8) hb9⟩
  · have KS2 := Lib.hid (show _ from KS.out w6 brefl)
    obtain ⟨Q, hQ⟩ : ∃ Q, spR R 5 1 2 num den h n = Q := ⟨_, rfl⟩
    obtain ⟨C, hC⟩ : ∃ C, spC R 5 1 2 num den h n = C := ⟨_, rfl⟩
    rw [hE, hQ, hC] at KS2
    rw [hQ, hC] at hL
    obtain ⟨hQok, l1, l2, l3, l4, l5, l6, l7⟩ := hL
    obtain ⟨m0', m1', m2'⟩ := ok_len hQok
    have b1 := held_bd HMR.out.ok 1 h
    have b2 := held_bd HMR.out.ok 2 h
    have b3 : 0 ≤ rgDebt R ∧ rgDebt R ≤ 1000000000000000 := debt_bd HMR.out.ok
    obtain ⟨V1, hV1⟩ : ∃ V, rgHeld R 1 h = V := ⟨_, rfl⟩
    obtain ⟨V2, hV2⟩ : ∃ V, rgHeld R 2 h = V := ⟨_, rfl⟩
    obtain ⟨U1, hU1⟩ : ∃ V, rgHeld Q 1 h = V := ⟨_, rfl⟩
    obtain ⟨U2, hU2⟩ : ∃ V, rgHeld Q 2 h = V := ⟨_, rfl⟩
    obtain ⟨D, hD⟩ : ∃ V, rgDebt R = V := ⟨_, rfl⟩
    obtain ⟨DQ, hDQ⟩ : ∃ V, rgDebt Q = V := ⟨_, rfl⟩
    rw [hV2, hU2] at l1 l5 l6 l7
    rw [hV1, hU1] at l2
    rw [hD, hDQ] at l6
    rw [hV1] at b1
    rw [hV2] at b2
    rw [hD] at b3
    have KH1 := Lib.hid (KH.out 1)
    have KH2 := Lib.hid (KH.out 2)
    rw [hV1] at KH1
    rw [hV2] at KH2
    have KDR := Lib.hid (fun U (hU : Below w6.heap.size w6 U) => fDebt_any (fun b => w1.heap.size + 2 ≤ b) _ _ _ R U (HR6.out.below hU) hl0 hl1 hl2)
    rw [hD] at KDR
    obtain ⟨G, hG⟩ : ∃ G, U2 - V2 = G := ⟨_, rfl⟩
    obtain ⟨NM, hNM⟩ : ∃ x, n * num = x := ⟨_, rfl⟩
    obtain ⟨T, hT⟩ : ∃ x, NM / den = x := ⟨_, rfl⟩
    rw [hG] at l1 l5 l6 l7
    rw [hNM] at l5 hnn
    rw [hT] at l5
    have e1 : IntKind.i64.wrap (U2 - V2) = G := by rw [hG]; exact IntWalk.i64_in _ (by omega)
    have e2 : IntKind.i64.wrap (V1 - n) = U1 := by rw [← l2]; exact IntWalk.i64_in _ (by omega)
    have e3 : G.tmod un = 0 := by rw [Int.tmod_eq_emod_of_nonneg l7.1]; exact l1
    have e3w : IntKind.i64.wrap (G.tmod un) = 0 := by rw [e3]; rfl
    have e4 : IntKind.i64.wrap (G + C) = T := by rw [l5]; exact IntWalk.i64_in _ (by omega)
    have e5 : IntKind.i64.wrap (n * num) = NM := by rw [hNM]; exact IntWalk.i64_in _ (by omega)
    have e6 : NM.tdiv den = T := by rw [Int.tdiv_eq_ediv_of_nonneg hnn.1]; exact hT
    have e6w : IntKind.i64.wrap (NM.tdiv den) = T := by rw [e6, ← l5]; exact IntWalk.i64_in _ (by omega)
    have e9 : wrap64 T = T := IntWalk.wrap64_in _ (by omega)
    obtain ⟨D1, hD1⟩ : ∃ x, D - n = x := ⟨_, rfl⟩
    have HE9 := Lib.hid e9
    clear e9
    have e7 : IntKind.i64.wrap (D - n) = D1 := by rw [hD1]; exact IntWalk.i64_in _ (by omega)
    have e8 : IntKind.i64.wrap (D1 + G) = DQ := by rw [l6, hD1]; exact IntWalk.i64_in _ (by omega)
    have d1 : decide (C ≥ 0) = true := decide_eq_true l3
    have d1' : decide (0 ≤ C) = true := decide_eq_true l3
    have d2 : decide (C < un) = true := decide_eq_true l4
    have d3 : (un == 0) = false := by simp; omega
    have d4 : (den == 0) = false := by simp; omega
    have d5 : ¬ un = 0 := by omega
    have d6 : ¬ den = 0 := by omega
    have HE := Lib.hid (And.intro e1 (And.intro e2 (And.intro e3 (And.intro e3w (And.intro e4 (And.intro e5 (And.intro e6 (And.intro e6w (And.intro e7 e8)))))))))
    have HU := Lib.hid (And.intro hU1 (And.intro hU2 hDQ))
    clear hE hQ hC hV1 hV2 hU1 hU2 hD hDQ l1 l2 l5 l6 l7 hG hNM hT hD1 KS KH e1 e2 e3 e3w e4 e5 e6 e6w e7 e8 b1 b2 b3 hnn
    go_wp2_with fail
    refine KS2.out.mono ?_
    rintro e w7 ⟨us, uh, um, rfl, hQ7, hb7⟩
    obtain ⟨g0, m0, d0', rfl, -, -, -⟩ := hQ7.S.shape
    obtain ⟨g1, m1, d1'', rfl, -, -, -⟩ := hQ7.H.shape
    obtain ⟨g2, m2, d2', rfl, -, -, -⟩ := hQ7.M.shape
    have X0 := keepB hb7 x0
    have X1 := keepB hb7 x1
    have X2 := keepB hb7 x2
    have hne : w2.heap.size < w7.heap.size := World.block_lt_of_cell? _ _ X0
    have hne4 : w4.heap.size < w7.heap.size := World.block_lt_of_cell? _ _ (keepB hb7 y0)
    have HB7 := Lib.hid (bal (bup HB6.out hb7) (.cells #[.slice g0 m0 d0', .slice g1 m1 d1'', .slice g2 m2 d2'] 29))
    have HU7 := Lib.hid (bal hb7 (.cells #[.slice g0 m0 d0', .slice g1 m1 d1'', .slice g2 m2 d2'] 29))
    have HQ7 := Lib.hid (hQ7.below (bal brefl (.cells #[.slice g0 m0 d0', .slice g1 m1 d1'', .slice g2 m2 d2'] 29)))
    have HT7 := Lib.hid (heap_alloc_new w7 (.cells #[.slice g0 m0 d0', .slice g1 m1 d1'', .slice g2 m2 d2'] 29))
    have HX7 := Lib.hid ((heap_alloc_old w7 (.cells #[.slice g0 m0 d0', .slice g1 m1 d1'', .slice g2 m2 d2'] 29) hne).trans ((hb7.block w2.heap.size (by omega)).trans HX6.out))
    have HY7 := Lib.hid ((heap_alloc_old w7 (.cells #[.slice g0 m0 d0', .slice g1 m1 d1'', .slice g2 m2 d2'] 29) hne4).trans ((hb7.block w4.heap.size (by omega)).trans HY6.out))
    clear hb7 hQ7 x0 x1 x2 y0 y1 y2 y3
    have KF := Lib.hid (ffind_yes (fun b => w1.heap.size + 2 ≤ b) _ _ _ R 2 2 un 0 1800 ra 6 ix _ (HR6.out.below HU7.out) hl0 HF2.out)
    go_wp2_with fail
    refine KF.out.mono ?_
    rintro e w8 ⟨rfl, hb8⟩
    have z8 := hb8.size
    simp only [World.size_alloc] at z8
    clear X0 X1 X2
    obtain ⟨W8, hW8⟩ : ∃ W, W = w8.alloc (.cells #[.int .i64 2, .int .i64 un, .int .i64 0, .int .i64 1800, .int .i64 ra, .int .i64 6, .bool ix] 41) := ⟨_, rfl⟩
    have hB8 : Below w.heap.size w W8 := by rw [hW8]; exact bal (bup HB7.out hb8) _
    have hU8 : Below w6.heap.size w6 W8 := by rw [hW8]; exact bal (bup HU7.out hb8) _
    have hQ8 : RgIn (fun b => w1.heap.size + 2 ≤ b) W8 (.slice g0 m0 d0') (.slice g1 m1 d1'') (.slice g2 m2 d2') Q := by rw [hW8]; exact (HQ7.out.below hb8).below (bal brefl _)
    have hT8 : W8.heap[w7.heap.size]? = some (.cells #[.slice g0 m0 d0', .slice g1 m1 d1'', .slice g2 m2 d2'] 29) := by rw [hW8]; exact (heap_alloc_old _ _ (by omega)).trans ((hb8.block w7.heap.size (by simp)).trans HT7.out)
    have hX8 : W8.heap[w2.heap.size]? = some (.cells #[.slice p0 i0 j0, .slice p1 i1 j1, .slice p2 i2 j2] 29) := by rw [hW8]; exact (heap_alloc_old _ _ (by omega)).trans ((hb8.block w2.heap.size (by simp; omega)).trans HX7.out)
    have hY8 : W8.heap[w4.heap.size]? = some (.cells #[.int .i64 1, .int .i64 2, .int .i64 num, .int .i64 den] 33) := by rw [hW8]; exact (heap_alloc_old _ _ (by omega)).trans ((hb8.block w4.heap.size (by simp; omega)).trans HY7.out)
    have hS8 : W8.heap[w8.heap.size]? = some (.cells #[.int .i64 2, .int .i64 un, .int .i64 0, .int .i64 1800, .int .i64 ra, .int .i64 6, .bool ix] 41) := by rw [hW8]; exact heap_alloc_new _ _
    have KQ := Lib.hid (fun s U (hU : Below W8.heap.size W8 U) => fHeld_any (fun b => w1.heap.size + 2 ≤ b) _ _ _ Q s h U (hQ8.below hU) m0' m1' m2')
    have KDQ := Lib.hid (fun U (hU : Below W8.heap.size W8 U) => fDebt_any (fun b => w1.heap.size + 2 ≤ b) _ _ _ Q U (hQ8.below hU) m0' m1' m2')
    have KR1 := Lib.hid (fun U (hU : Below W8.heap.size W8 U) => KH1.out U (bup hU8 hU))
    have KR2 := Lib.hid (fun U (hU : Below W8.heap.size W8 U) => KH2.out U (bup hU8 hU))
    have KRD := Lib.hid (fun U (hU : Below W8.heap.size W8 U) => KDR.out U (bup hU8 hU))
    have KQ1 := Lib.hid (KQ.out 1)
    have KQ2 := Lib.hid (KQ.out 2)
    rw [HU.out.1] at KQ1
    rw [HU.out.2.1] at KQ2
    rw [HU.out.2.2] at KDQ
    have HB8 := Lib.hid hB8
    have u0 := up_cell (cell_heap (i := 0) hT8 rfl)
    have u1 := up_cell (cell_heap (i := 1) hT8 rfl)
    have u2 := up_cell (cell_heap (i := 2) hT8 rfl)
    have v0 := up_cell (cell_heap (i := 0) hX8 rfl)
    have v1 := up_cell (cell_heap (i := 1) hX8 rfl)
    have v2 := up_cell (cell_heap (i := 2) hX8 rfl)
    have HT8 := Lib.hid hT8
    have HX8 := Lib.hid hX8
    have HY8 := Lib.hid hY8
    have HS8 := Lib.hid hS8
    have HW8 := Lib.hid hW8
    clear hb8 hB8 hU8 hQ8 hT8 hX8 hY8 hS8 hW8 KQ KH1 KH2 KDR HX7 HY7 HT7 HQ7
    go_wp2_with fail
    rw [← HW8.out]
    have e1 := HE.out.1
    (refine wp_region_up (by kernel_rfl) (by kernel_rfl) ?_); (repeat (go_big_quiet_step ((first | ((with_reducible refine (KQ2.out _ (up_prop _)).mono ?_); exact fun _ _ hh => ⟨hh.1, ⟨_, bup (Subtype.property _) hh.2⟩, rfl⟩) | ((with_reducible refine (KR2.out _ (up_prop _)).mono ?_); exact fun _ _ hh => ⟨hh.1, ⟨_, bup (Subtype.property _) hh.2⟩, rfl⟩))))); (refine wpQuiet_nil ?_); (rintro w9 ⟨⟨_, hb9⟩, rfl⟩)
    clear u0 u1 u2 v0 v1 v2 e1
    have u0 := up_cell (keepB hb9 (cell_heap (i := 0) HT8.out rfl))
    have u1 := up_cell (keepB hb9 (cell_heap (i := 1) HT8.out rfl))
    have u2 := up_cell (keepB hb9 (cell_heap (i := 2) HT8.out rfl))
    have v0 := up_cell (keepB hb9 (cell_heap (i := 0) HX8.out rfl))
    have v1 := up_cell (keepB hb9 (cell_heap (i := 1) HX8.out rfl))
    have v2 := up_cell (keepB hb9 (cell_heap (i := 2) HX8.out rfl))
    have s1 := up_cell (keepB hb9 (cell_heap (i := 1) HS8.out rfl))
    have t2 := up_cell (keepB hb9 (cell_heap (i := 2) HY8.out rfl))
    have t3 := up_cell (keepB hb9 (cell_heap (i := 3) HY8.out rfl))
    have LQ1 := Lib.hid (fun U (hU : Below w9.heap.size w9 U) => KQ1.out U (bup hb9 hU))
    have LR1 := Lib.hid (fun U (hU : Below w9.heap.size w9 U) => KR1.out U (bup hb9 hU))
    have LDQ := Lib.hid (fun U (hU : Below w9.heap.size w9 U) => KDQ.out U (bup hb9 hU))
    have LDR := Lib.hid (fun U (hU : Below w9.heap.size w9 U) => KRD.out U (bup hb9 hU))
    have HB9 := Lib.hid (bup HB8.out hb9)
    obtain ⟨f1, f2, f3, f3w, f4, f5, f6, f6w, f7, f8⟩ := HE.out
    have f9 := HE9.out
    clear hb9 KQ1 KQ2 KDQ KR1 KR2 KRD HT8 HX8 HY8 HS8 HW8 HB8
    go_wp2_with fail
    (refine wp_region_up (by kernel_rfl) (by kernel_rfl) ?_); (repeat (go_big_quiet_step ((first
      | ((with_reducible refine (LQ1.out _ (up_prop _)).mono ?_); exact fun _ _ hh => ⟨hh.1, ⟨_, bup (Subtype.property _) hh.2⟩, rfl⟩)
      | ((with_reducible refine (LR1.out _ (up_prop _)).mono ?_); exact fun _ _ hh => ⟨hh.1, ⟨_, bup (Subtype.property _) hh.2⟩, rfl⟩)
      | ((with_reducible refine (LDQ.out _ (up_prop _)).mono ?_); exact fun _ _ hh => ⟨hh.1, ⟨_, bup (Subtype.property _) hh.2⟩, rfl⟩)
      | ((with_reducible refine (LDR.out _ (up_prop _)).mono ?_); exact fun _ _ hh => ⟨hh.1, ⟨_, bup (Subtype.property _) hh.2⟩, rfl⟩)
      | (go_at_call 20; refine (sane35_any _).mono ?_; exact fun _ _ hh => ⟨hh.1, ⟨_, bup (Subtype.property _) hh.2⟩, rfl⟩))))); (refine wpQuiet_nil ?_); (rintro w10 ⟨⟨_, hb10⟩, rfl⟩)
    go_wp2
    go_ret
    exact ⟨rfl, bup HB9.out hb10⟩
end Go.Proofs.Ytmhglabcnimegaa
