/- RiskCoupons: the walk. -/
import Derived.Test.YtmhglabcnimegaaZL39C
import Derived.Test.YtmhglabcnimegaaZL39Base
import Derived.Test.YtmhglabcnimegaaZRfP
import Derived.Test.YtmhglabcnimegaaZRegP
namespace Go.Proofs.Ytmhglabcnimegaa
open Go.RowKit
set_option linter.unusedVariables false
set_option linter.unusedSimpArgs false
theorem intc_sl (W : World) (T : TypeId) (C : Array Value) (L : List Int) (n g : Nat) (hg : g = W.heap.size) (hC : C = (L.map (Value.int .i64)).toArray) (hn : L.length = n) (hm : n ≤ maxLen) : Sl 1 encI (fun _ => True) (W.alloc (.cells C T)) (.slice (some ⟨g, 0, none⟩) n n) L := by
  subst hg
  refine ⟨_, n, n, rfl, hn, Nat.le_refl _, hm, .inr ⟨W.heap.size, 0, rfl, trivial, by simp, fun j a hj i u hi => ?_⟩⟩
  have hh := World.alloc_heap_new W (.cells C T)
  match i, hi with
  | 0, hi =>
    simp [encI] at hi
    subst hi
    refine cell_heap (i := 0 + j * 1 + 0) hh ?_
    rw [hC]
    simp [hj]
  | i + 1, hi => simp [encI] at hi
set_option maxHeartbeats 16000000 in
set_option maxRecDepth 100000 in
theorem rcoup_walk (k0 : Option Addr) (len0 cap0 : Nat) (w : World) (h1 : len0 ≤ cap0) (h2 : cap0 ≤ maxLen) (hz : len0 = 0 ∨ ∃ b off, k0 = some ⟨b, off, none⟩ ∧ ∀ i, i < len0 → ∃ z : Int, w.cell? ⟨b, off + i, none⟩ = some (.int .i64 z)) :
    Calls Try.prog 6 #[.slice k0 len0 cap0] w fun e w' => e = .returned (.bool true) ∧ Below w.heap.size w w' := by
  go_enter Try.func6, Try.ntmps6
  go_wp2_with fail
  refine (new_any k0 len0 cap0 w h1 h2 hz).mono ?_
  rintro e w1 ⟨sb, rfl, hsb, hS1, hB1⟩
  have hlt := srcOk_lt hS1
  have hzs := hB1.size
  clear hz
  go_wp2_with fail
  obtain ⟨W1, hW1⟩ : ∃ X, w1.alloc (.cells #[.slice none 0 0, .slice none 0 0, .slice none 0 0] 29) = X := ⟨_, rfl⟩
  have hx1 : W1.heap[w1.heap.size]? = some (.cells #[.slice none 0 0, .slice none 0 0, .slice none 0 0] 29 (0, 0)) := by rw [← hW1]; exact World.alloc_heap_new _ _
  have HX1 := Lib.hid hx1
  have HS1 := Lib.hid (show SrcOk W1 sb by rw [← hW1]; exact srcOk_alloc hS1 _)
  have HB1 := Lib.hid (show Below w.heap.size w W1 by rw [← hW1]; exact bal hB1 _)
  have z1 : w1.heap.size < W1.heap.size := (Array.getElem?_eq_some_iff.1 hx1).1
  have hzW : w1.heap.size + 1 = W1.heap.size := by rw [← hW1]; simp
  rw [hW1]
  clear hx1 hS1 hB1 hW1
  refine (pick_lit sb [1000, 2500, 5000] _ _ _ W1 HS1.out (by decide) (by decide) rfl rfl hzW).mono ?_
  rintro e w2 ⟨ra, hra, rfl, hS2, hG2⟩
  have HX2 := Lib.hid ((hG2.block _ z1 (by simp; omega)).trans HX1.out)
  have HS2 := Lib.hid hS2
  have HB2 := Lib.hid (HB1.out.trans (below_of_grown hG2 hsb HB1.out.size))
  have z2 := hG2.size
  clear hS2 hG2 HX1 HS1 HB1
  go_wp2_with fail
  refine (pick_lit sb [1, 3, 6, 12] _ _ _ w2 HS2.out (by decide) (by decide) rfl rfl rfl).mono ?_
  rintro e w3 ⟨ev, hev, rfl, hS3, hG3⟩
  have hcp : CpLike ra ev := ⟨by simpa using hra, by simpa using hev⟩
  have hx3 := (hG3.block _ (by omega) (by simp; omega)).trans HX2.out
  have z3 := hG3.size
  have HX3 := Lib.hid hx3
  have HS3 := Lib.hid hS3
  have HB3 := Lib.hid (HB2.out.trans (below_of_grown hG3 hsb HB2.out.size))
  have HCP := Lib.hid hcp
  clear hS3 hG3 HX2 HS2 HB2 hra hev hcp
  have x0 := cell_heap (i := 0) hx3 rfl
  have x1 := cell_heap (i := 1) hx3 rfl
  have x2 := cell_heap (i := 2) hx3 rfl
  have zb3 : w1.heap.size < w3.heap.size := by omega
  clear hx3
  go_wp2_with fail
  have hadd := fadd_any (fun b => w3.heap.size < b) (.slice none 0 0) (.slice none 0 0) (.slice none 0 0) ⟨[], [], []⟩ 1 1 0 1800 ra ev false (w3.alloc (.cells #[.int .i64 1, .int .i64 1, .int .i64 0, .int .i64 1800, .int .i64 ra, .int .i64 ev, .bool false] 41)) (rgIn_nil _ _) (by simp) (by simp) (by simp) (fun b hb => by simp at hb; omega) (.inl rfl)
  rw [show (⟨1, 1, 0, 1800, ra, ev, false⟩ : Sec) = cX ra ev from rfl, (cA_add HCP.out).1, (cA_add HCP.out).2] at hadd
  have HADD := Lib.hid hadd
  clear hadd
  refine HADD.out.mono ?_
  clear HADD
  rintro e w4 hg
  obtain ⟨b0, m0, d0, b1, m1, d1, b2, m2, d2, rfl, hq, hb4⟩ := hg.shape
  have hB4 : Below w3.heap.size w3 w4 := below_boxZ hb4
  have hsx : w4.heap[w3.heap.size]? = some (.cells #[.int .i64 1, .int .i64 1, .int .i64 0, .int .i64 1800, .int .i64 ra, .int .i64 ev, .bool false] 41 (0, 0)) := box_belowN hb4
  have hx4 := keep_box hB4 HX3.out
  have HQ4 := Lib.hid hq
  have HX4 := Lib.hid hx4
  have HSX4 := Lib.hid hsx
  have HB4 := Lib.hid hB4
  have z4 : w3.heap.size < w4.heap.size := (Array.getElem?_eq_some_iff.1 hsx).1
  clear x0 x1 x2
  have x0 := cell_heap (i := 0) hx4 rfl
  have x1 := cell_heap (i := 1) hx4 rfl
  have x2 := cell_heap (i := 2) hx4 rfl
  have xf0 := frozen_of_row w4 _ 0 _ _ hx4
  have xf1 := frozen_of_row w4 _ 1 _ _ hx4
  have xf2 := frozen_of_row w4 _ 2 _ _ hx4
  clear hg hq hb4 hB4 hsx hx4
  go_upto_region 5 with fail
  have hb5 := below_set3 w4 (Nat.le_refl w1.heap.size) (.slice b0 m0 d0) (.slice b1 m1 d1) (.slice b2 m2 d2)
  have hq5 := HQ4.out.set3 (b := w1.heap.size) (v0 := .slice b0 m0 d0) (v1 := .slice b1 m1 d1) (v2 := .slice b2 m2 d2) (fun k hk => by omega)
  have hx5 := heap_setCell_same _ _ 2 _ _ (.slice b2 m2 d2) (heap_setCell_same _ _ 1 _ _ (.slice b1 m1 d1) (heap_setCell_same w4 _ 0 _ _ (.slice b0 m0 d0) HX4.out))
  have hz5 : (((w4.setCell ⟨w1.heap.size, 0, none⟩ (.slice b0 m0 d0)).setCell ⟨w1.heap.size, 1, none⟩ (.slice b1 m1 d1)).setCell ⟨w1.heap.size, 2, none⟩ (.slice b2 m2 d2)).heap.size = w4.heap.size := by simp [World.setCell]
  have hs5 : (((w4.setCell ⟨w1.heap.size, 0, none⟩ (.slice b0 m0 d0)).setCell ⟨w1.heap.size, 1, none⟩ (.slice b1 m1 d1)).setCell ⟨w1.heap.size, 2, none⟩ (.slice b2 m2 d2)).heap[w3.heap.size]? = w4.heap[w3.heap.size]? :=
    (Below.heap_setCell _ _ _ _ (by simp; omega)).trans ((Below.heap_setCell _ _ _ _ (by simp; omega)).trans (Below.heap_setCell _ _ _ _ (by simp; omega)))
  generalize ((w4.setCell ⟨w1.heap.size, 0, none⟩ (.slice b0 m0 d0)).setCell ⟨w1.heap.size, 1, none⟩ (.slice b1 m1 d1)).setCell ⟨w1.heap.size, 2, none⟩ (.slice b2 m2 d2) = W5 at hb5 hq5 hx5 hz5 hs5 ⊢
  have HS5 := Lib.hid (srcOk_below (srcOk_below HS3.out HB4.out (by omega)) hb5 hlt)
  have HB5 := Lib.hid ((HB3.out.trans (HB4.out.mono HB3.out.size)).trans (hb5.mono hzs))
  have HX5 := Lib.hid hx5
  have HSX5 := Lib.hid (hs5.trans HSX4.out)
  have HQ5 := Lib.hid hq5
  have zb5 : w1.heap.size < W5.heap.size := by omega
  have zs5 : w3.heap.size < W5.heap.size := by omega
  clear x0 x1 x2 xf0 xf1 xf2
  have x0 := cell_heap (i := 0) hx5 rfl
  have x1 := cell_heap (i := 1) hx5 rfl
  have x2 := cell_heap (i := 2) hx5 rfl
  clear hb5 hq5 hx5 hs5 HQ4 HX4 HSX4 HB4 HX3 HS3 HB3
  go_cut [] (fun wx => ∃ (n : Int) (a0 a1 a2 : Option Addr) (n0 c0 n1 c1 n2 c2 : Nat), (1 ≤ n ∧ n ≤ 900000) ∧ wx.heap[w1.heap.size]? = some (.cells #[.slice a0 n0 c0, .slice a1 n1 c1, .slice a2 n2 c2] 29 (0, 0)) ∧ wx.heap[w3.heap.size]? = some (.cells #[.int .i64 1, .int .i64 1, .int .i64 0, .int .i64 1800, .int .i64 ra, .int .i64 ev, .bool false] 41 (0, 0)) ∧ RgIn (fun _ => True) wx (.slice a0 n0 c0) (.slice a1 n1 c1) (.slice a2 n2 c2) (cR ra ev n) ∧ Below w.heap.size w wx)
  case first =>
    go_region_with (first
      | (go_at_call 16; refine (range_any sb 1 900000 _ (srcOk_drewN HS5.out 1) (by decide) (by decide) (by decide)).mono ?_; rintro e w6 ⟨q, hq, rfl, hS6, hG6⟩; have hG6' : W5.grownBy w6 (some sb) := grownBy_undrew hG6; have hx6 := (hG6'.block _ zb5 (by simp; omega)).trans HX5.out; have HX6 := Lib.hid hx6; have HSX6 := Lib.hid ((hG6'.block _ zs5 (by simp; omega)).trans HSX5.out); have HQ6 := Lib.hid (HQ5.out.grown hG6' (fun b hb => by omega)); have HB6 := Lib.hid (HB5.out.trans (below_of_grown hG6' hsb HB5.out.size)); have z6 := hG6'.size; have HQQ := Lib.hid hq; have v0 := cell_heap (i := 0) hx6 rfl; have v1 := cell_heap (i := 1) hx6 rfl; have v2 := cell_heap (i := 2) hx6 rfl; clear hS6 hG6 hG6' hx6 hq)
      | (go_at_call 39; refine (fIssue_any (fun b => w3.heap.size < b) _ _ _ ⟨[cX ra ev], [], []⟩ 0 1 1 q _ HQ6.out (by simp) (by simp) (by simp) (fun b hb => by omega)).mono ?_; rw [(cA_iss HCP.out HQQ.out).1, (cA_iss HCP.out HQQ.out).2]; rintro e w7 hg; obtain ⟨p0, q0, r0, p1, q1, r1, p2, q2, r2, rfl, hq7, hb7⟩ := hg.shape; have hx7 := keep_box hb7 HX6.out; have HQ7 := Lib.hid hq7; have HX7 := Lib.hid hx7; have HSX7 := Lib.hid (keep_box hb7 HSX6.out); have HB7 := Lib.hid (HB6.out.trans (hb7.mono HB6.out.size)); have u0 := cell_heap (i := 0) hx7 rfl; have u1 := cell_heap (i := 1) hx7 rfl; have u2 := cell_heap (i := 2) hx7 rfl; have uf0 := frozen_of_row w7 _ 0 _ _ hx7; have uf1 := frozen_of_row w7 _ 1 _ _ hx7; have uf2 := frozen_of_row w7 _ 2 _ _ hx7; clear hg hq7 hb7 hx7))
    all_goals (go_wp2_with fail; go_meet)
    all_goals exact ⟨q, p0, p1, p2, q0, r0, q1, r1, q2, r2, HQQ.out, heap_setCell_same _ _ 2 _ _ (.slice p2 q2 r2) (heap_setCell_same _ _ 1 _ _ (.slice p1 q1 r1) (heap_setCell_same w7 _ 0 _ _ (.slice p0 q0 r0) HX7.out)), ((Below.heap_setCell _ _ _ _ (by simp; omega)).trans ((Below.heap_setCell _ _ _ _ (by simp; omega)).trans (Below.heap_setCell _ _ _ _ (by simp; omega)))).trans HSX7.out, (HQ7.out.set3 (fun k hk => by omega)).any, HB7.out.trans ((below_set3 w7 (Nat.le_refl w1.heap.size) _ _ _).mono hzs)⟩
  case rest =>
    obtain ⟨n, a0, a1, a2, n0, c0, n1, c1, n2, c2, hn, hx, hsx, hR, hB⟩ := hcut
    clear x0 x1 x2 HX5 HSX5 HQ5 HB5 HS5
    have x0 := cell_heap (i := 0) hx rfl
    have x1 := cell_heap (i := 1) hx rfl
    have x2 := cell_heap (i := 2) hx rfl
    have q0 := cell_heap (i := 0) hsx rfl
    have q1 := cell_heap (i := 1) hsx rfl
    have q2 := cell_heap (i := 2) hsx rfl
    have q3 := cell_heap (i := 3) hsx rfl
    have q4 := cell_heap (i := 4) hsx rfl
    have q5 := cell_heap (i := 5) hsx rfl
    have q6 := cell_heap (i := 6) hsx rfl
    have zc1 : w1.heap.size < wc.heap.size := (Array.getElem?_eq_some_iff.1 hx).1
    have zc3 : w3.heap.size < wc.heap.size := (Array.getElem?_eq_some_iff.1 hsx).1
    have HR := Lib.hid hR
    have HB := Lib.hid hB
    have hok := cR_ok HCP.out hn
    have hpe : prE (cR ra ev n) 0 [100, 200, 300, 400] = 0 := prE_ok hok cR_path (by omega) (by omega)
    have HPJ := Lib.hid (fun W v (hW : RgIn (fun _ => True) W (.slice a0 n0 c0) (.slice a1 n1 c1) (.slice a2 n2 c2) (cR ra ev n)) (hv : Sl 1 encI (fun _ => True) W v [100, 200, 300, 400]) => project_any (fun _ => True) (fun _ => True) _ _ _ v (cR ra ev n) 0 [100, 200, 300, 400] W hW (by simp [cR]) (by simp [cR]) (by simp [cR]) hv (by simp))
    rw [hpe] at HPJ
    have HHE := Lib.hid (fun W (hW : RgIn (fun _ => True) W (.slice a0 n0 c0) (.slice a1 n1 c1) (.slice a2 n2 c2) (cR ra ev n)) => fHeld_any (fun _ => True) _ _ _ (cR ra ev n) 1 1 W hW (by simp [cR]) (by simp [cR]) (by simp [cR]))
    rw [cR_held HCP.out hn] at HHE
    have HCO := Lib.hid (fun W => r34coupon_any 1 1 0 1800 ra ev false n W)
    rw [cC_err HCP.out hn, show cpN 1 1 0 1800 ra ev n = cC ra ev n from rfl] at HCO
    have HDA := Lib.hid (fun W => (r34days_any 1 1 0 1800 ra ev false W).mono fun e w' h => daysMade_sl 1 1 0 1800 ra ev false h)
    rw [show daysL 1 1 0 1800 ra ev = cD ra ev from rfl] at HDA
    have HPE := Lib.hid hpe
    have HL := Lib.hid (show (prL (cR ra ev n) 0 [100, 200, 300, 400]).length = 4 from prL_len hpe)
    have hcb := cC_bd HCP.out hn
    have hdl := cD_len HCP.out
    have HCS := Lib.hid (fun k => cS_bd HCP.out hn k)
    have HTT := Lib.hid (cR_total (cC ra ev n) (cD ra ev) (cD_bd HCP.out))
    have HII := Lib.hid (fun (j : Nat) (hj : j ≤ 4) => And.intro (cR_int ra ev n [100, 200, 300, 400] j (by omega)) (cR_prin ra ev n [100, 200, 300, 400] j hj))
    obtain ⟨c, hc⟩ : ∃ c, cC ra ev n = c := ⟨_, rfl⟩
    obtain ⟨D, hD⟩ : ∃ D, cD ra ev = D := ⟨_, rfl⟩
    rw [hc] at HCO hcb HCS HTT HII
    rw [hD] at HDA hdl HCS HTT HII
    clear hx hsx hR hB hok hpe hc hD
    go_wp2_with fail
    have hp1 := HPJ.out (wc.alloc (.cells #[.int .i64 100, .int .i64 200, .int .i64 300, .int .i64 400] 3)) (.slice (some ⟨wc.heap.size, 0, none⟩) 4 4) (HR.out.below (bal brefl _)) (intc_sl wc _ _ _ 4 _ rfl rfl rfl (by unfold maxLen; omega))
    refine hp1.mono ?_
    clear hp1
    rintro e w8 ⟨v8, rfl, hown, hb8⟩
    rw [HL.out] at hown
    have hl8 : Sl 4 encSvc (fun _ => True) w8 v8 (prL (cR ra ev n) 0 [100, 200, 300, 400]) := Sl.own encSvc_len hown HL.out (fun _ _ => trivial)
    obtain ⟨f8, c8, rfl⟩ := own_slice0 hown
    have HL8 := Lib.hid hl8
    have hX8 : Below wc.heap.size wc w8 := bup (bal brefl _) hb8
    replace x0 := keepB hX8 x0
    replace x1 := keepB hX8 x1
    replace x2 := keepB hX8 x2
    replace q0 := keepB hX8 q0
    replace q1 := keepB hX8 q1
    replace q2 := keepB hX8 q2
    replace q3 := keepB hX8 q3
    replace q4 := keepB hX8 q4
    replace q5 := keepB hX8 q5
    replace q6 := keepB hX8 q6
    have HB8 := Lib.hid hX8
    have z8 := World.block_lt_of_cell? _ _ x0
    have z8' := World.block_lt_of_cell? _ _ q0
    clear hown hl8 hb8 hX8 HPJ
    go_upto_region 7 with fail
    have u0 := up_cell x0
    have u1 := up_cell x1
    have u2 := up_cell x2
    have p0 := up_cell q0
    have p1 := up_cell q1
    have p2 := up_cell q2
    have p3 := up_cell q3
    have p4 := up_cell q4
    have p5 := up_cell q5
    have p6 := up_cell q6
    have K1 := Lib.hid (fun W (hW : Below w8.heap.size w8 W) => HHE.out W (HR.out.below (bup HB8.out hW)))
    (refine wp_region_up (by kernel_rfl) (by kernel_rfl) ?_); (repeat (go_big_quiet_step ((first | (go_at_call 19; (with_reducible refine (K1.out _ (up_prop _)).mono ?_); exact fun _ _ hh => ⟨hh.1, ⟨_, bup (Subtype.property _) hh.2⟩, rfl⟩) | (go_at_call 54; (with_reducible refine (HCO.out _).mono ?_); exact fun _ _ hh => ⟨hh.1, ⟨_, bup (Subtype.property _) hh.2⟩, rfl⟩))))); (refine wpQuiet_nil ?_); (rintro w9 ⟨⟨_, hb9⟩, rfl⟩)
    clear u0 u1 u2 p0 p1 p2 p3 p4 p5 p6 x0 x1 x2 HHE HCO K1
    replace q0 := keepB hb9 q0
    replace q1 := keepB hb9 q1
    replace q2 := keepB hb9 q2
    replace q3 := keepB hb9 q3
    replace q4 := keepB hb9 q4
    replace q5 := keepB hb9 q5
    replace q6 := keepB hb9 q6
    have HL9 := Lib.hid (HL8.out.below hb9)
    have HB9 := Lib.hid (bup HB8.out hb9)
    have z9 := World.block_lt_of_cell? _ _ q0
    clear hb9 HL8
    go_wp2_with fail
    go_loopw [10, 64] (fun sv iv wr => ∃ j : Nat, j ≤ 4 ∧ iv = .int .i64 j ∧ sv = .int .i64 (sumF (fun k : Nat => sumF (dayG c (0 + (k : Int))) D) (List.range j)) ∧ Below w9.heap.size w9 wr) (fun _ iv _ => 4 - (intOf iv).toNat)
    case atStart => exact ⟨0, by omega, rfl, rfl, brefl⟩
    case round =>
      obtain ⟨j, hj, rfl, rfl, hbr⟩ := hrel
      have HBR := Lib.hid hbr
      by_cases hlt4 : j < 4
      · obtain ⟨bl, ol, yl, il, pl, dl, rfl, -, hbl, hxl, l0, l1, l2, l3⟩ := (HL9.out.below hbr).svc hlt4
        have hat := prL_at HPE.out hxl
        have e1 : il = sumF (dayG c (0 + (j : Int))) D := (congrArg Svc.i hat).trans (HII.out j (by omega)).1
        have e2 : pl = 0 := (congrArg Svc.p hat).trans (HII.out j (by omega)).2
        have hsb := sumF_bd (f := fun k : Nat => sumF (dayG c (0 + (k : Int))) D) (B := 18000000000000) (L := List.range j) fun k _ => HCS.out k
        have hib := HCS.out j
        rw [List.length_range] at hsb
        have HSS := Lib.hid (show sumF (fun k : Nat => sumF (dayG c (0 + (k : Int))) D) (List.range (j + 1)) = sumF (fun k : Nat => sumF (dayG c (0 + (k : Int))) D) (List.range j) + il by rw [List.range_succ, sumF_app, e1]; simp [sumF])
        rw [← e1] at hib
        obtain ⟨T, hT⟩ : ∃ T, sumF (fun k : Nat => sumF (dayG c (0 + (k : Int))) D) (List.range j) = T := ⟨_, rfl⟩
        rw [hT] at hsb HSS ⊢
        subst e2
        clear hat e1 hxl hbr hT
        go_wp2
        go_roundw
        case rel => exact ⟨j + 1, by omega, by go_num, by rw [HSS.out], bal HBR.out _⟩
        case measure => simp [intOf]; omega
      · obtain rfl : j = 4 := by omega
        rw [HTT.out]
        have q0 := keepB hbr q0
        have q1 := keepB hbr q1
        have q2 := keepB hbr q2
        have q3 := keepB hbr q3
        have q4 := keepB hbr q4
        have q5 := keepB hbr q5
        have q6 := keepB hbr q6
        have zr := World.block_lt_of_cell? _ _ q0
        clear hbr
        go_wp2_with fail
        refine (HDA.out _).mono ?_
        rintro e w10 ⟨v, rfl, hsl, hb10⟩
        obtain ⟨p, nd, cd, rfl, hld, hnc, hcm⟩ := hsl.shape
        have HSL := Lib.hid hsl
        have HB10 := Lib.hid (bup HBR.out hb10)
        have HLD := Lib.hid hld
        have hnd : nd ≤ 60 := by omega
        have htb := indF_bd D D.length
        rw [List.take_length] at htb
        clear hsl hb10 HDA q0 q1 q2 q3 q4 q5 q6
        go_wp2_with fail
        go_loop [13, 79] (fun sv iv => ∃ k : Nat, k ≤ nd ∧ iv = .int .i64 k ∧ sv = .int .i64 (sumF indF (D.take k))) (fun _ iv => nd - (intOf iv).toNat)
        case atStart => exact ⟨0, by omega, rfl, rfl⟩
        case round =>
          obtain ⟨k, hk, rfl, rfl⟩ := hrel
          have hib := indF_bd D k
          by_cases hltk : k < nd
          · obtain ⟨db, off, d, rfl, -, hdl', hdk, hdc⟩ := HSL.out.int hltk
            have hst := sumF_take (f := indF) hdk
            obtain ⟨T, hT⟩ : ∃ T, sumF indF (D.take k) = T := ⟨_, rfl⟩
            rw [hT] at hib hst ⊢
            by_cases hd : d < 1440
            · have HST := Lib.hid (show sumF indF (D.take (k + 1)) = T + 1 by rw [hst]; unfold indF; rw [if_pos hd])
              clear hst hdk hT
              go_wp2
              go_round
              case rel => exact ⟨k + 1, by omega, by go_num, by rw [HST.out]⟩
              case measure => simp [intOf]; omega
            · have HST := Lib.hid (show sumF indF (D.take (k + 1)) = T by rw [hst]; unfold indF; rw [if_neg hd]; omega)
              clear hst hdk hT
              go_wp2
              go_round
              case rel => exact ⟨k + 1, by omega, by go_num, by rw [HST.out]⟩
              case measure => simp [intOf]; omega
          · obtain rfl : k = nd := by omega
            rw [List.take_of_length_le (Nat.le_of_eq HLD.out)]
            obtain ⟨T, hT⟩ : ∃ T, sumF indF D = T := ⟨_, rfl⟩
            rw [hT] at htb ⊢
            have hm := mul_bd hcb.1 hcb.2 htb.1 (show T ≤ 60 by omega)
            have hw1 : IntKind.i64.wrap (c * T) = c * T := IntWalk.i64_in _ (by omega)
            go_wp2_with fail
            refine (sane39_any _).mono ?_
            rintro e w11 ⟨rfl, hb11⟩
            go_wp2
            go_ret
            exact ⟨rfl, HB.out.trans ((bup HB9.out (bup HB10.out hb11)).mono HB.out.size)⟩
end Go.Proofs.Ytmhglabcnimegaa
