/- treasuryref39's Path, Ints (at equal lists), Shifted, year. treasuryref39's falls, Falls, Term. treasuryref39's Falls. treasuryref39's Term. treasuryref39's Greatest. -/
import Derived.Test.YtpoidaenkjjdfaaZRgM
import Derived.BigQuiet
import Derived.IntWalk
import Derived.Test.YtpoidaenkjjdfaaZL39F
import Derived.Test.YtpoidaenkjjdfaaZRgK
namespace Go.Proofs.Ytpoidaenkjjdfaa
open Go.RowKit
set_option linter.unusedVariables false
set_option linter.unusedSimpArgs false
set_option maxHeartbeats 1000000 in
set_option maxRecDepth 100000 in
theorem fpath_any (P : Nat → Prop) (v : Value) (L : List Int) (w : World) (h : Sl 1 encI P w v L) (hn : L.length ≤ 1000000) :
    Calls Try.prog 50 #[v] w fun e w' => e = .returned (.bool (pathB L)) ∧ w = w' := by
  obtain ⟨ao, n, c, rfl, hl, hnc, hcm⟩ := h.shape
  have H := Lib.hid h
  have HL := Lib.hid hl
  have hn1 : n ≤ 1000000 := by omega
  have HPB := Lib.hid (show pathB L = (decide (1 ≤ n ∧ n ≤ 60) && !badR L) by unfold pathB; rw [hl])
  clear h hl hn
  go_enter Try.func50, Try.ntmps50
  go_wp2
  go_loop [7] (fun iv => ∃ k : Nat, k ≤ n ∧ iv = .int .i64 k ∧ badR (L.take k) = false) (fun iv => n - (intOf iv).toNat)
  case atStart => exact ⟨0, by omega, rfl, rfl⟩
  case round =>
    obtain ⟨k, hk, rfl, hall⟩ := hrel
    have HA := Lib.hid hall
    clear hall
    by_cases hlt : k < n
    · obtain ⟨b, off, x, rfl, -, hbl, hxk, hck⟩ := H.out.int hlt
      have HX := Lib.hid hxk
      clear hxk
      cases hp : inB x 0 20000
      · have hbad := badR_yes HX.out hp
        have HFIN := Lib.hid (show pathB L = false by rw [HPB.out, hbad]; simp)
        have hx : x < 0 ∨ 20000 < x := by
          rcases Int.lt_or_le x 0 with h | h
          · exact .inl h
          · right
            rcases Int.lt_or_le 20000 x with h' | h'
            · exact h'
            · rw [inB_iff.2 ⟨h, h'⟩] at hp; cases hp
        clear hbad
        by_cases hx0 : x < 0
        · go_wp2
          go_ret
          exact ⟨by rw [HFIN.out]; rfl, rfl⟩
        · have hx1 : 20000 < x := by omega
          go_wp2
          go_ret
          exact ⟨by rw [HFIN.out]; rfl, rfl⟩
      · have hx := inB_iff.1 hp
        have hx0 : ¬ x < 0 := by omega
        have hx1 : ¬ 20000 < x := by omega
        have hstep := Lib.hid (badR_snoc HX.out hp HA.out)
        go_wp2
        go_round
        case rel => exact ⟨k + 1, by omega, by go_num, hstep.out⟩
        case measure => simp [intOf]; omega
    · obtain rfl : k = n := by omega
      have hfin := HA.out
      rw [List.take_of_length_le (Nat.le_of_eq HL.out)] at hfin
      have HFIN := Lib.hid (show pathB L = decide (1 ≤ k ∧ k ≤ 60) by rw [HPB.out, hfin]; simp)
      clear hfin
      by_cases hk1 : 1 ≤ k
      · by_cases hk2 : k ≤ 60
        · have HF := Lib.hid (show pathB L = true by rw [HFIN.out]; exact decide_eq_true ⟨hk1, hk2⟩)
          go_wp2
          go_ret
          exact ⟨ret_bool (by rw [HF.out]; (try simp); (try omega)), rfl⟩
        · have HF := Lib.hid (show pathB L = false by rw [HFIN.out]; exact decide_eq_false (by omega))
          go_wp2
          go_ret
          exact ⟨ret_bool (by rw [HF.out]; (try simp); (try omega)), rfl⟩
      · have HF := Lib.hid (show pathB L = false by rw [HFIN.out]; exact decide_eq_false (by omega))
        go_wp2
        go_ret
        exact ⟨ret_bool (by rw [HF.out]; (try simp); (try omega)), rfl⟩
set_option maxHeartbeats 1000000 in
set_option maxRecDepth 100000 in
theorem fints_eq (P P' : Nat → Prop) (v v' : Value) (L : List Int) (w : World) (h : Sl 1 encI P w v L) (h' : Sl 1 encI P' w v' L) (hl : L.length ≤ 1000000) :
    Calls Try.prog 51 #[v, v'] w fun e w' => e = .returned (.bool true) ∧ Below w.heap.size w w' := by
  obtain ⟨ao, n, c, rfl, hn, hnc, hcm⟩ := h.shape
  obtain ⟨ao', n', c', rfl, hn', hnc', hcm'⟩ := h'.shape
  obtain rfl : n = n' := by omega
  have hn1 : n ≤ 1000000 := by omega
  have H := Lib.hid h
  have H' := Lib.hid h'
  clear h h' hn hn' hl
  go_enter Try.func51, Try.ntmps51
  go_wp2
  go_loopw [13] (fun iv wr => ∃ k : Nat, k ≤ n ∧ iv = .int .i64 k ∧ Below w.heap.size w wr) (fun iv _ => n - (intOf iv).toNat)
  case atStart => exact ⟨0, by omega, rfl, Below.refl _ _⟩
  case round =>
    obtain ⟨k, hk, rfl, hbr⟩ := hrel
    by_cases hlt : k < n
    · obtain ⟨b, off, x, rfl, -, hbl, hx, k0⟩ := (H.out.below hbr).int hlt
      obtain ⟨b', off', x', rfl, -, hbl', hx', j0⟩ := (H'.out.below hbr).int hlt
      rw [hx] at hx'
      cases hx'
      clear hx
      go_wp2
      go_quiet (fail)
      go_wp2
      go_roundw
      case rel => exact ⟨k + 1, by omega, by go_num, below_drewZ hbr _⟩
      case measure => simp [intOf]; omega
    · go_wp2
      go_ret
      exact ⟨rfl, hbr⟩
theorem fyear_any (n : Int) (w : World) : Calls Try.prog 109 #[.int .i64 n] w fun e w' => e = .returned (.bool (inB n 0 100)) ∧ w = w' := by
  go_enter Try.func109, Try.ntmps109
  go_wp2
  all_goals (go_ret; exact ⟨ret_bool (by simp only [inB]; first | (rw [Bool.eq_iff_iff]; simp; omega) | (simp; omega)), rfl⟩)
set_option maxHeartbeats 2000000 in
set_option maxRecDepth 100000 in
theorem fshifted_any (P : Nat → Prop) (v : Value) (L : List Int) (b : Int) (w : World) (h : Sl 1 encI P w v L) (hn : L.length ≤ 1000000) :
    Calls Try.prog 53 #[v, .int .i64 b] w (IntsW (shL b L) w) := by
  obtain ⟨ao, n, c, rfl, hl, hnc, hcm⟩ := h.shape
  have H := Lib.hid h
  have HL := Lib.hid hl
  have hn1 : n ≤ 1000000 := by omega
  obtain ⟨i1, hi, hz0, hz1, hz2⟩ := info_parts infoInt
  obtain ⟨q, hq⟩ : ∃ q, byC b = q := ⟨_, rfl⟩
  have hq1 : -20000 ≤ q ∧ q ≤ 20000 := by rw [← hq]; unfold byC; omega
  have hq2 : max (-20000) (min 20000 b) = q := by rw [← hq]; unfold byC; omega
  have HQ := Lib.hid hq
  clear h hl hn hq
  go_enter Try.func53, Try.ntmps53
  go_wp2
  go_loopw [5, 10] (fun v iv wr => ∃ k : Nat, k ≤ n ∧ iv = .int .i64 k ∧ wr.ownsRow w.heap.size 3 1 v k (flatE encI ((L.take k).map (shR b))) ∧ Below w.heap.size w wr) (fun _ iv _ => n - (intOf iv).toNat)
  case atStart => exact ⟨0, by omega, rfl, World.ownsRow_nil _ _ _ _, brefl⟩
  case round =>
    obtain ⟨k, hk, rfl, hown, hbr⟩ := hrel
    have HO := Lib.hid hown
    have HBR := Lib.hid hbr
    have zr := hbr.size
    obtain ⟨fo, fc, rfl⟩ := own_slice0 hown
    by_cases hlt : k < n
    · obtain ⟨b0, off, x, rfl, -, hbl, hxk, hck⟩ := (H.out.below hbr).int hlt
      have HSN := Lib.hid (shR_snoc (b := b) hxk)
      obtain ⟨M, hM⟩ : ∃ M, flatE encI ((L.take k).map (shR b)) = M := ⟨_, rfl⟩
      have hO := HO.out
      rw [hM] at hO
      have HO2 := Lib.hid hO
      have HM := Lib.hid hM
      clear hown hxk hM hO
      cases hp : inB x 0 20000
      · have HSX := Lib.hid (show shR b x = x by unfold shR; rw [hp]; rfl)
        have hx : x < 0 ∨ 20000 < x := by
          rcases Int.lt_or_le x 0 with h | h
          · exact .inl h
          · right
            rcases Int.lt_or_le 20000 x with h' | h'
            · exact h'
            · rw [inB_iff.2 ⟨h, h'⟩] at hp; cases hp
        by_cases hx0 : 0 ≤ x
        · have hx1 : ¬ x ≤ 20000 := by omega
          go_wp2_with (at_builtin; go_must (refine wpList_append_own _ rfl _ _ 22 rfl w.heap.size 3 i1 (.int .i64 0) 1 8 Try.underlying22 hi hz0 hz1 hz2 rfl (by decide) _ k M rfl (HO2.out.alloc _) ⟨wr.heap.size, 0, none⟩ 1 1 (encI x) rfl rfl (newsL _ _ _) (one1 _ _) (by unfold maxLen; omega) (by omega) (by simp; omega) ?_); intro v5 w5 hown5 hg5 _; have HB5 := Lib.hid (show Below w.heap.size w w5 from (bal HBR.out _).grown hg5 (by simp; omega) (fun q hq => (HO2.out.lt q hq).1)); have HOW := Lib.hid hown5; clear hg5 hown5)
          go_roundw
          case rel => exact ⟨k + 1, by omega, by go_num, by rw [HSN.out, flatE_snoc, HM.out, HSX.out]; exact HOW.out, HB5.out⟩
          case measure => simp [intOf]; omega
        · go_wp2_with (at_builtin; go_must (refine wpList_append_own _ rfl _ _ 22 rfl w.heap.size 3 i1 (.int .i64 0) 1 8 Try.underlying22 hi hz0 hz1 hz2 rfl (by decide) _ k M rfl (HO2.out.alloc _) ⟨wr.heap.size, 0, none⟩ 1 1 (encI x) rfl rfl (newsL _ _ _) (one1 _ _) (by unfold maxLen; omega) (by omega) (by simp; omega) ?_); intro v5 w5 hown5 hg5 _; have HB5 := Lib.hid (show Below w.heap.size w w5 from (bal HBR.out _).grown hg5 (by simp; omega) (fun q hq => (HO2.out.lt q hq).1)); have HOW := Lib.hid hown5; clear hg5 hown5)
          go_roundw
          case rel => exact ⟨k + 1, by omega, by go_num, by rw [HSN.out, flatE_snoc, HM.out, HSX.out]; exact HOW.out, HB5.out⟩
          case measure => simp [intOf]; omega
      · have hx := inB_iff.1 hp
        have hx0 : 0 ≤ x := hx.1
        have hx1 : x ≤ 20000 := hx.2
        have hw : IntKind.i64.wrap (x + q) = x + q := IntWalk.i64_in _ (by omega)
        have hw2 : wrap64 (x + q) = x + q := (IntWalk.i64_left _).symm.trans hw
        have HSX := Lib.hid (show shR b x = max 0 (min 20000 (x + q)) by unfold shR; rw [hp, HQ.out, if_pos rfl]; omega)
        go_upto_region 7 with fail
        try rw [hq2]
        try rw [hw]
        try rw [hw2]
        obtain ⟨u, hu⟩ : ∃ u, max 0 (min 20000 (x + q)) = u := ⟨_, rfl⟩
        rw [hu] at HSX ⊢
        clear hu
        go_wp2_with (at_builtin; go_must (refine wpList_append_own _ rfl _ _ 22 rfl w.heap.size 3 i1 (.int .i64 0) 1 8 Try.underlying22 hi hz0 hz1 hz2 rfl (by decide) _ k M rfl (HO2.out.alloc _) ⟨wr.heap.size, 0, none⟩ 1 1 (encI u) rfl rfl (newsL _ _ _) (one1 _ _) (by unfold maxLen; omega) (by omega) (by simp; omega) ?_); intro v5 w5 hown5 hg5 _; have HB5 := Lib.hid (show Below w.heap.size w w5 from (bal HBR.out _).grown hg5 (by simp; omega) (fun q hq => (HO2.out.lt q hq).1)); have HOW := Lib.hid hown5; clear hg5 hown5)
        go_roundw
        case rel => exact ⟨k + 1, by omega, by go_num, by rw [HSN.out, flatE_snoc, HM.out, HSX.out]; exact HOW.out, HB5.out⟩
        case measure => simp [intOf]; omega
    · obtain rfl : k = n := by omega
      clear hown
      go_wp2
      go_ret
      exact ⟨_, rfl, by rw [shL_len, HL.out, ← shL_take HL.out]; exact HO.out, hbr⟩
end Go.Proofs.Ytpoidaenkjjdfaa
namespace Go.Proofs.Ytpoidaenkjjdfaa
open Go.RowKit
set_option linter.unusedVariables false
set_option linter.unusedSimpArgs false
theorem quo_360 {ma : Int} (h0 : 0 ≤ ma) (h1 : ma ≤ 36000) : ma.tdiv 360 = yrOf ma := by
  unfold yrOf; rw [if_pos (inB_iff.2 ⟨h0, h1⟩)]; exact Int.tdiv_eq_ediv_of_nonneg h0
set_option maxHeartbeats 4000000 in
set_option maxRecDepth 100000 in
theorem ffalls1_any (P : Nat → Prop) (vs vh vm : Value) (R : Reg) (y : Int) (w : World) (hr : RgIn P w vs vh vm R) (hS : R.secs.length ≤ 1000000) (hok : RgOk R) :
    Calls Try.prog 111 #[.agg #[vs, vh, vm], .int .i64 y] w fun e w' => e = .returned (.int .i64 (sumF (fallF R y) R.hs)) ∧ Below w.heap.size w w' := by
  obtain ⟨a0, n0, c0, rfl, -, -, -⟩ := hr.S.shape
  obtain ⟨a1, n1, c1, rfl, hl1, -, -⟩ := hr.H.shape
  obtain ⟨a2, n2, c2, rfl, -, -, -⟩ := hr.M.shape
  have hn1 : n1 ≤ 1000 := by have := hok.rh.len; omega
  have HL1 := Lib.hid hl1
  have HOK := Lib.hid hok
  obtain ⟨W, hW⟩ : ∃ X, w.alloc (.cells #[.slice a0 n0 c0, .slice a1 n1 c1, .slice a2 n2 c2] 27) = X := ⟨_, rfl⟩
  have hx : W.heap[w.heap.size]? = some (.cells #[.slice a0 n0 c0, .slice a1 n1 c1, .slice a2 n2 c2] 27 (0, 0)) := by rw [← hW]; exact World.alloc_heap_new _ _
  have HRW := Lib.hid (show RgIn P W (.slice a0 n0 c0) (.slice a1 n1 c1) (.slice a2 n2 c2) R by rw [← hW]; exact hr.below (bal brefl _))
  have HBW := Lib.hid (show Below w.heap.size w W by rw [← hW]; exact bal brefl _)
  have y0 := cell_heap (i := 0) hx rfl
  have y1 := cell_heap (i := 1) hx rfl
  have y2 := cell_heap (i := 2) hx rfl
  clear hr hl1 hok hx
  go_enter Try.func111, Try.ntmps111
  go_wp2
  try rw [hW]
  clear hW
  go_loopw [5, 13] (fun nv iv wr => ∃ k : Nat, k ≤ n1 ∧ iv = .int .i64 k ∧ nv = .int .i64 (sumF (fallF R y) (R.hs.take k)) ∧ Below W.heap.size W wr) (fun _ iv _ => n1 - (intOf iv).toNat)
  case atStart => exact ⟨0, by omega, rfl, rfl, brefl⟩
  case round =>
    obtain ⟨k, hk, rfl, rfl, hbr⟩ := hrel
    have hTb := sumF_bdk (k := k) (by omega) (fallF_bd HOK.out.rh y) HOK.out.rh.len
    by_cases hlt : k < n1
    · obtain ⟨b, off, xs, xh, xa, rfl, -, hbl, hxk, q0, q1, q2⟩ := (HRW.out.H.below hbr).hold hlt
      have hT2 := sumF_take (f := fallF R y) hxk
      have hsc := HOK.out.rh.sec _ (List.mem_of_getElem? hxk)
      have ham := HOK.out.rh.amt _ (List.mem_of_getElem? hxk)
      have r0 := keepB hbr y0
      have r1 := keepB hbr y1
      have r2 := keepB hbr y2
      have hzr : w.heap.size < wr.heap.size := World.block_lt_of_cell? _ _ r0
      obtain ⟨fb, hfind⟩ := ffind_of _ _ _ _ R ⟨xs, xh, xa⟩ (wr.alloc (Obj.cells #[Value.int IntKind.i64 xs, Value.int IntKind.i64 xh, Value.int IntKind.i64 xa] 98)) ((HRW.out.below hbr).below (bal brefl _)) hS
      have hF : fallF R y ⟨xs, xh, xa⟩ = if yrOf (secOf R ⟨xs, xh, xa⟩).ma = y then xa else 0 := rfl
      rw [hF] at hT2
      obtain ⟨sx, hsx⟩ : ∃ s, secOf R ⟨xs, xh, xa⟩ = s := ⟨_, rfl⟩
      rw [hsx] at hfind hsc hT2
      obtain ⟨id, un, is, ma, ra, ev, ix⟩ := sx
      have hm0 := hsc.ma0
      have hi0 := hsc.is0
      have hm2 := hsc.ma2
      simp only at hm0 hi0 hm2 hT2 ham
      have hqq := quo_360 (ma := ma) (by omega) (by omega)
      have hq0 : 0 ≤ yrOf ma ∧ yrOf ma ≤ 100 := by rw [← hqq, Int.tdiv_eq_ediv_of_nonneg (by omega)]; omega
      obtain ⟨Y, hY⟩ : ∃ z, yrOf ma = z := ⟨_, rfl⟩
      obtain ⟨T, hT⟩ : ∃ z, sumF (fallF R y) (R.hs.take k) = z := ⟨_, rfl⟩
      rw [hY] at hqq hq0 hT2
      rw [hT] at hTb hT2 ⊢
      have HT := Lib.hid hT2
      have HF := Lib.hid hfind
      have HBR := Lib.hid hbr
      clear hT2 hsc hfind hbr hxk hsx hF hY hT
      go_wp2_with fail
      refine HF.out.mono ?_
      rintro e w7 ⟨rfl, hb7⟩
      dsimp only [aggSec]
      have hc2 := boxed_cell hb7 2 rfl
      have HC2 := Lib.hid (show w7.cell? ⟨wr.heap.size, 2, none⟩ = some (.int .i64 xa) from boxed_cell hb7 2 rfl)
      have c2' := HC2.out
      have hz7 : wr.heap.size < w7.heap.size := World.block_lt_of_cell? _ _ c2'
      have HB7 := Lib.hid (bup (bal HBR.out _) hb7)
      clear hb7 HF hc2
      have hw : wrap64 (ma.tdiv 360) = Y := by rw [hqq]; exact IntWalk.wrap64_in _ (by omega)
      have hw' : IntKind.i64.wrap (ma.tdiv 360) = Y := (IntWalk.i64_left _).trans hw
      by_cases hqy : Y = y
      · subst hqy
        have HS2 := Lib.hid (show sumF (fallF R Y) (R.hs.take (k + 1)) = T + xa by rw [HT.out, if_pos rfl])
        clear HT
        go_wp2
        go_roundw
        case rel => exact ⟨k + 1, by omega, by go_num, by rw [HS2.out], bal HB7.out _⟩
        case measure => simp [intOf]; omega
      · have HS2 := Lib.hid (show sumF (fallF R y) (R.hs.take (k + 1)) = T by rw [HT.out, if_neg hqy]; omega)
        have hq1 : (Y == y) = false := by simpa using hqy
        clear HT
        go_wp2
        go_roundw
        case rel => exact ⟨k + 1, by omega, by go_num, by rw [HS2.out], bal HB7.out _⟩
        case measure => simp [intOf]; omega
    · obtain rfl : k = n1 := by omega
      rw [List.take_of_length_le (Nat.le_of_eq HL1.out)]
      go_wp2
      go_ret
      exact ⟨rfl, bup HBW.out hbr⟩
end Go.Proofs.Ytpoidaenkjjdfaa
namespace Go.Proofs.Ytpoidaenkjjdfaa
open Go.RowKit
set_option linter.unusedVariables false
set_option linter.unusedSimpArgs false
set_option maxHeartbeats 4000000 in
set_option maxRecDepth 100000 in
theorem fFalls_any (P : Nat → Prop) (vs vh vm : Value) (R : Reg) (y0 n : Int) (w : World) (hr : RgIn P w vs vh vm R) (hS : R.secs.length ≤ 1000000) (hH : R.hs.length ≤ 1000000) (hM : R.ms.length ≤ 1000000) :
    Calls Try.prog 60 #[.agg #[vs, vh, vm], .int .i64 y0, .int .i64 n] w (IntsEW (fsL R y0 n) (fsE R y0 n) w) := by
  obtain ⟨a0, n0, c0, rfl, -, -, -⟩ := hr.S.shape
  obtain ⟨a1, n1, c1, rfl, -, -, -⟩ := hr.H.shape
  obtain ⟨a2, n2, c2, rfl, -, -, -⟩ := hr.M.shape
  have HR := Lib.hid hr
  have HC := Lib.hid (fun W (hW : Below w.heap.size w W) => fcheck_any P _ _ _ R W (hr.below (w' := W) hW) hS hH hM)
  obtain ⟨E0, hE0⟩ : ∃ E, chkE R = E := ⟨_, rfl⟩
  obtain ⟨yb, hyb⟩ : ∃ b, inB y0 0 100 = b := ⟨_, rfl⟩
  obtain ⟨nb, hnb⟩ : ∃ b, inB n 1 60 = b := ⟨_, rfl⟩
  have hpe : fsE R y0 n = if E0 = 0 then (if yb then (if nb then 0 else 2) else 2) else E0 := by unfold fsE; rw [hE0, hyb, hnb]
  rw [hE0] at HC
  have HYB := Lib.hid (fun (W : World) => fyear_any y0 W)
  rw [hyb] at HYB
  have hnil : fsE R y0 n ≠ 0 → fsL R y0 n = [] := fun h => by unfold fsL; rw [if_neg h]
  have HPE := Lib.hid hpe
  have HNIL := Lib.hid hnil
  have HE0 := Lib.hid hE0
  have HYI := Lib.hid hyb
  have HNI := Lib.hid hnb
  clear hr hE0 hyb hnb hpe hnil
  by_cases h0 : E0 = 0
  rotate_left
  · have hE1 : (E0 != 0) = true := by simpa using h0
    have hE2 : (E0 == 0) = false := by simpa using h0
    have HE : fsE R y0 n = E0 := by rw [HPE.out, if_neg h0]
    have HN := Lib.hid (HNIL.out (by rw [HE]; exact h0))
    have HE' := Lib.hid HE
    clear HE
    go_enter Try.func60, Try.ntmps60
    go_wp2_with fail
    refine (HC.out _ (bal brefl _)).mono ?_
    rintro e w1 ⟨rfl, hb1⟩
    have HB1 := Lib.hid (bup (bal brefl _) hb1)
    clear hb1
    go_wp2
    go_ret2
    exact intsEW_nil HN.out HE'.out HB1.out
  subst h0
  cases yb
  · have HE : fsE R y0 n = 2 := by rw [HPE.out]; simp
    have HN := Lib.hid (HNIL.out (by rw [HE]; decide))
    have HE' := Lib.hid HE
    clear HE
    go_enter Try.func60, Try.ntmps60
    go_wp2_with fail
    refine (HC.out _ (bal brefl _)).mono ?_
    rintro e w1 ⟨rfl, hb1⟩
    have HB1 := Lib.hid (bup (bal brefl _) hb1)
    clear hb1
    go_wp2_with fail
    refine (HYB.out _).mono ?_
    rintro e w3 ⟨rfl, rfl⟩
    go_wp2
    go_ret2
    exact intsEW_nil HN.out HE'.out HB1.out
  cases nb
  · have HE : fsE R y0 n = 2 := by rw [HPE.out]; simp
    have HN := Lib.hid (HNIL.out (by rw [HE]; decide))
    have HE' := Lib.hid HE
    clear HE
    have hnn : n < 1 ∨ 60 < n := by
      have hni := HNI.out
      rcases Int.lt_or_le n 1 with h | h
      · exact .inl h
      · right
        rcases Int.lt_or_le 60 n with h' | h'
        · exact h'
        · rw [inB_iff.2 ⟨h, h'⟩] at hni; cases hni
    by_cases hn1 : n < 1
    · go_enter Try.func60, Try.ntmps60
      go_wp2_with fail
      refine (HC.out _ (bal brefl _)).mono ?_
      rintro e w1 ⟨rfl, hb1⟩
      have HB1 := Lib.hid (bup (bal brefl _) hb1)
      clear hb1
      go_wp2_with fail
      refine (HYB.out _).mono ?_
      rintro e w3 ⟨rfl, rfl⟩
      go_wp2
      go_ret2
      exact intsEW_nil HN.out HE'.out HB1.out
    · have hn2 : 60 < n := by omega
      go_enter Try.func60, Try.ntmps60
      go_wp2_with fail
      refine (HC.out _ (bal brefl _)).mono ?_
      rintro e w1 ⟨rfl, hb1⟩
      have HB1 := Lib.hid (bup (bal brefl _) hb1)
      clear hb1
      go_wp2_with fail
      refine (HYB.out _).mono ?_
      rintro e w3 ⟨rfl, rfl⟩
      go_wp2
      go_ret2
      exact intsEW_nil HN.out HE'.out HB1.out
  have HE : fsE R y0 n = 0 := by rw [HPE.out]; simp
  have hLL : fsL R y0 n = (List.range n.toNat).map (fsF R y0) := by unfold fsL; rw [if_pos HE]
  have HLL := Lib.hid hLL
  have HE' := Lib.hid HE
  have HOK := Lib.hid (chkE_iff.1 HE0.out)
  have hy := inB_iff.1 HYI.out
  have hn := inB_iff.1 HNI.out
  have hna : ¬ n < 1 := by omega
  have hnb2 : ¬ 60 < n := by omega
  obtain ⟨m, rfl⟩ : ∃ m : Nat, n = m := ⟨n.toNat, by omega⟩
  obtain ⟨i1, hi, hz0, hz1, hz2⟩ := info_parts infoInt
  have HFA := Lib.hid (fun W (hW : Below w.heap.size w W) y => ffalls1_any P _ _ _ R y W (HR.out.below hW) hS HOK.out)
  clear HE hLL HPE HNIL
  go_enter Try.func60, Try.ntmps60
  go_wp2_with fail
  refine (HC.out _ (bal brefl _)).mono ?_
  rintro e w1 ⟨rfl, hb1⟩
  have HR0 := Lib.hid (show w1.cell? ⟨w.heap.size, 0, none⟩ = some (.slice a0 n0 c0) from boxed_cell hb1 0 rfl)
  have HR1 := Lib.hid (show w1.cell? ⟨w.heap.size, 1, none⟩ = some (.slice a1 n1 c1) from boxed_cell hb1 1 rfl)
  have HR2 := Lib.hid (show w1.cell? ⟨w.heap.size, 2, none⟩ = some (.slice a2 n2 c2) from boxed_cell hb1 2 rfl)
  have HB1 := Lib.hid (bup (bal brefl _) hb1)
  have hz1' : w.heap.size < w1.heap.size := by have := hb1.size; simp at this; omega
  clear hb1
  go_wp2_with fail
  refine (HYB.out _).mono ?_
  rintro e w3 ⟨rfl, rfl⟩
  go_wp2_with fail
  clear HC HYB
  go_loopw [9, 10] (fun v iv wr => ∃ k : Nat, k ≤ m ∧ iv = .int .i64 k ∧ wr.ownsRow w1.heap.size 3 1 v k (flatE encI ((List.range k).map (fsF R y0))) ∧ Below w1.heap.size w1 wr) (fun _ iv _ => m - (intOf iv).toNat)
  case atStart => exact ⟨0, by omega, rfl, World.ownsRow_nil _ _ _ _, brefl⟩
  case round =>
    obtain ⟨k, hk, rfl, hown, hbr⟩ := hrel
    have HO := Lib.hid hown
    have HBR := Lib.hid hbr
    have HBr := Lib.hid (bup HB1.out hbr)
    have zr := hbr.size
    obtain ⟨fo, fc, rfl⟩ := own_slice0 hown
    by_cases hlt : k < m
    · have KF := Lib.hid (fun W hW => HFA.out W hW (y0 + k))
      have HSN := Lib.hid (show flatE encI ((List.range (k + 1)).map (fsF R y0)) = flatE encI ((List.range k).map (fsF R y0)) ++ encI (sumF (fallF R (y0 + k)) R.hs) by rw [fs_snoc, flatE_snoc]; rfl)
      obtain ⟨F, hF⟩ : ∃ z, sumF (fallF R (y0 + k)) R.hs = z := ⟨_, rfl⟩
      rw [hF] at KF HSN
      have r0 := keepB hbr HR0.out
      have r1 := keepB hbr HR1.out
      have r2 := keepB hbr HR2.out
      obtain ⟨M, hM⟩ : ∃ M, flatE encI ((List.range k).map (fsF R y0)) = M := ⟨_, rfl⟩
      have hO := HO.out
      rw [hM] at hO HSN
      have HO2 := Lib.hid hO
      have hw1 : IntKind.i64.wrap (y0 + k) = y0 + k := IntWalk.i64_in _ (by omega)
      clear hown hF hM hO
      go_wp2_with (first | (go_at_call 111; (try simp only [hw1]); refine (KF.out _ HBr.out).mono ?_; rintro e w4 ⟨rfl, hb4⟩; have z4 := hb4.size; have HO4 := Lib.hid (ownsRow_belowZ HO2.out hb4); have HB4 := Lib.hid (bup HBR.out hb4); clear hb4) | (at_builtin; go_must (refine wpList_append_own _ rfl _ _ 22 rfl w1.heap.size 3 i1 (.int .i64 0) 1 8 Try.underlying22 hi hz0 hz1 hz2 rfl (by decide) _ k M rfl (HO4.out.alloc _) ⟨w4.heap.size, 0, none⟩ 1 1 (encI F) rfl rfl (newsL _ _ _) (one1 _ _) (by unfold maxLen; omega) (by omega) (by simp; omega) ?_); intro v5 w5 hown5 hg5 _; have HB5 := Lib.hid (show Below w1.heap.size w1 w5 from (bal HB4.out _).grown hg5 (by simp; omega) (fun q hq => (HO4.out.lt q hq).1)); have HOW := Lib.hid hown5; clear hg5 hown5))
      go_roundw
      case rel => exact ⟨k + 1, by omega, by go_num, by rw [HSN.out]; exact HOW.out, HB5.out⟩
      case measure => simp [intOf]; omega
    · obtain rfl : k = m := by omega
      have HO2 := Lib.hid (ownsRow_baseZ HO.out (b' := w.heap.size) (by have := HB1.out.size; omega))
      have HEND := Lib.hid (show fsL R y0 k = (List.range k).map (fsF R y0) by rw [HLL.out]; rfl)
      clear hown hbr
      go_wp2
      go_ret2
      exact ⟨.slice fo k fc, by rw [HE'.out]; rfl, by rw [HEND.out]; simpa using HO2.out, HBr.out⟩
end Go.Proofs.Ytpoidaenkjjdfaa
namespace Go.Proofs.Ytpoidaenkjjdfaa
open Go.RowKit
set_option linter.unusedVariables false
set_option linter.unusedSimpArgs false
set_option maxHeartbeats 4000000 in
set_option maxRecDepth 100000 in
theorem fterm_any (P : Nat → Prop) (vs vh vm : Value) (R : Reg) (day : Int) (w : World) (hr : RgIn P w vs vh vm R) (hS : R.secs.length ≤ 1000000) (hH : R.hs.length ≤ 1000000) (hM : R.ms.length ≤ 1000000) :
    Calls Try.prog 64 #[.agg #[vs, vh, vm], .int .i64 day] w (TmW R day w) := by
  obtain ⟨a0, n0, c0, rfl, -, -, -⟩ := hr.S.shape
  obtain ⟨a1, n1, c1, rfl, hl1, -, -⟩ := hr.H.shape
  obtain ⟨a2, n2, c2, rfl, -, -, -⟩ := hr.M.shape
  have HR := Lib.hid hr
  have HL1 := Lib.hid hl1
  have HC := Lib.hid (fun W (hW : Below w.heap.size w W) => fcheck_any P _ _ _ R W (hr.below (w' := W) hW) hS hH hM)
  obtain ⟨E0, hE0⟩ : ∃ E, chkE R = E := ⟨_, rfl⟩
  obtain ⟨yb, hyb⟩ : ∃ b, inB day 0 36000 = b := ⟨_, rfl⟩
  have hpe : tmE R day = if E0 = 0 then (if yb then 0 else 2) else E0 := by unfold tmE; rw [hE0, hyb]
  rw [hE0] at HC
  have HE0 := Lib.hid hE0
  clear hr hE0
  by_cases h0 : E0 = 0
  rotate_left
  · have hE1 : (E0 != 0) = true := by simpa using h0
    have hE2 : (E0 == 0) = false := by simpa using h0
    rw [if_neg h0] at hpe
    have HN := Lib.hid (show tmNum R day = 0 by unfold tmNum; rw [hpe, if_neg h0])
    have HD := Lib.hid (show tmDen R day = 0 by unfold tmDen; rw [hpe, if_neg h0])
    have HE := Lib.hid hpe
    clear hpe hyb
    go_enter Try.func64, Try.ntmps64
    go_wp2_with fail
    refine (HC.out _ (bal brefl _)).mono ?_
    rintro e w1 ⟨rfl, hb1⟩
    have HB1 := Lib.hid (bup (bal brefl _) hb1)
    clear hb1
    go_wp2
    go_ret3
    exact ⟨by rw [HN.out, HD.out, HE.out]; rfl, HB1.out⟩
  subst h0
  cases yb
  · rw [if_pos rfl] at hpe
    simp only [Bool.false_eq_true, if_false] at hpe
    have HN := Lib.hid (show tmNum R day = 0 by unfold tmNum; rw [hpe]; rfl)
    have HD := Lib.hid (show tmDen R day = 0 by unfold tmDen; rw [hpe]; rfl)
    have HE := Lib.hid hpe
    have hx : day < 0 ∨ 36000 < day := by
      rcases Int.lt_or_le day 0 with h | h
      · exact .inl h
      · right
        rcases Int.lt_or_le 36000 day with h' | h'
        · exact h'
        · rw [inB_iff.2 ⟨h, h'⟩] at hyb; cases hyb
    clear hpe hyb
    by_cases hx0 : day < 0
    · go_enter Try.func64, Try.ntmps64
      go_wp2_with fail
      refine (HC.out _ (bal brefl _)).mono ?_
      rintro e w1 ⟨rfl, hb1⟩
      have HB1 := Lib.hid (bup (bal brefl _) hb1)
      clear hb1
      go_wp2
      go_ret3
      exact ⟨by rw [HN.out, HD.out, HE.out]; rfl, HB1.out⟩
    · have hx1 : 36000 < day := by omega
      go_enter Try.func64, Try.ntmps64
      go_wp2_with fail
      refine (HC.out _ (bal brefl _)).mono ?_
      rintro e w1 ⟨rfl, hb1⟩
      have HB1 := Lib.hid (bup (bal brefl _) hb1)
      clear hb1
      go_wp2
      go_ret3
      exact ⟨by rw [HN.out, HD.out, HE.out]; rfl, HB1.out⟩
  simp only [if_true] at hpe
  have HN := Lib.hid (show tmNum R day = sumF (tmN R day) R.hs by unfold tmNum; rw [hpe]; rfl)
  have HD := Lib.hid (show tmDen R day = sumF (tmD R day) R.hs by unfold tmDen; rw [hpe]; rfl)
  have HE := Lib.hid hpe
  have hok := chkE_iff.1 HE0.out
  have HOK := Lib.hid hok
  have hday := inB_iff.1 hyb
  have hx0 : ¬ day < 0 := by omega
  have hx1 : ¬ 36000 < day := by omega
  have hn1 : n1 ≤ 1000 := by have := hok.rh.len; omega
  clear hpe hyb hok hl1
  go_enter Try.func64, Try.ntmps64
  go_wp2_with fail
  refine (HC.out _ (bal brefl _)).mono ?_
  rintro e w1 ⟨rfl, hb1⟩
  have y0 := (show w1.cell? ⟨w.heap.size, 0, none⟩ = some (.slice a0 n0 c0) from boxed_cell hb1 0 rfl)
  have y1 := (show w1.cell? ⟨w.heap.size, 1, none⟩ = some (.slice a1 n1 c1) from boxed_cell hb1 1 rfl)
  have y2 := (show w1.cell? ⟨w.heap.size, 2, none⟩ = some (.slice a2 n2 c2) from boxed_cell hb1 2 rfl)
  have HB1 := Lib.hid (bup (bal brefl _) hb1)
  have HRW := Lib.hid (HR.out.below HB1.out)
  have hz1 : w.heap.size < w1.heap.size := World.block_lt_of_cell? _ _ y0
  clear hb1 HC
  go_wp2
  go_loopw [8, 9, 28] (fun nv dv iv wr => ∃ k : Nat, k ≤ n1 ∧ iv = .int .i64 k ∧ nv = .int .i64 (sumF (tmN R day) (R.hs.take k)) ∧ dv = .int .i64 (sumF (tmD R day) (R.hs.take k)) ∧ Below w1.heap.size w1 wr) (fun _ _ iv _ => n1 - (intOf iv).toNat)
  case atStart => exact ⟨0, by omega, rfl, rfl, rfl, brefl⟩
  case round =>
    obtain ⟨k, hk, rfl, rfl, rfl, hbr⟩ := hrel
    have hTb := tmN_tot HOK.out hday.1 k
    have hUb := tmD_tot HOK.out day k
    by_cases hlt : k < n1
    · obtain ⟨b, off, xs, xh, xa, rfl, -, hbl, hxk, q0, q1, q2⟩ := (HRW.out.H.below hbr).hold hlt
      have hT2 := sumF_take (f := tmN R day) hxk
      have hU2 := sumF_take (f := tmD R day) hxk
      have hTb2 := tmN_tot HOK.out hday.1 (k + 1)
      have hm := List.mem_of_getElem? hxk
      have hsc := HOK.out.rh.sec _ hm
      have ham := HOK.out.rh.amt _ hm
      have htn := tmN_bd HOK.out hday.1 _ hm
      rw [hT2] at hTb2
      have r0 := keepB hbr y0
      have r1 := keepB hbr y1
      have r2 := keepB hbr y2
      have hzr : w.heap.size < wr.heap.size := World.block_lt_of_cell? _ _ r0
      obtain ⟨fb, hfind⟩ := ffind_of _ _ _ _ R ⟨xs, xh, xa⟩ (wr.alloc (Obj.cells #[Value.int IntKind.i64 xs, Value.int IntKind.i64 xh, Value.int IntKind.i64 xa] 98)) ((HRW.out.below hbr).below (bal brefl _)) hS
      have hF : tmN R day ⟨xs, xh, xa⟩ = if day < (secOf R ⟨xs, xh, xa⟩).ma then xa * ((secOf R ⟨xs, xh, xa⟩).ma - day) else 0 := rfl
      have hG : tmD R day ⟨xs, xh, xa⟩ = if day < (secOf R ⟨xs, xh, xa⟩).ma then xa else 0 := rfl
      rw [hF] at hT2 hTb2 htn
      rw [hG] at hU2
      obtain ⟨sx, hsx⟩ : ∃ s, secOf R ⟨xs, xh, xa⟩ = s := ⟨_, rfl⟩
      rw [hsx] at hfind hsc hT2 hTb2 htn hU2
      obtain ⟨id, un, is, ma, ra, ev, ix⟩ := sx
      have hm2 := hsc.ma2
      have hm0 := hsc.ma0
      have hi0 := hsc.is0
      simp only [amtF] at hm0 hi0 hm2 hT2 hTb2 hU2 ham htn
      obtain ⟨T, hT⟩ : ∃ z, sumF (tmN R day) (R.hs.take k) = z := ⟨_, rfl⟩
      obtain ⟨U, hU⟩ : ∃ z, sumF (tmD R day) (R.hs.take k) = z := ⟨_, rfl⟩
      rw [hT] at hTb hT2 hTb2 ⊢
      rw [hU] at hUb hU2 ⊢
      have HT := Lib.hid hT2
      have HU := Lib.hid hU2
      have HF := Lib.hid hfind
      have HBR := Lib.hid hbr
      clear hT2 hU2 hsc hfind hbr hxk hsx hF hG hT hU hm
      go_wp2_with fail
      refine HF.out.mono ?_
      rintro e w7 ⟨rfl, hb7⟩
      dsimp only [aggSec]
      have c2' := (show w7.cell? ⟨wr.heap.size, 2, none⟩ = some (.int .i64 xa) from boxed_cell hb7 2 rfl)
      have hz7 : wr.heap.size < w7.heap.size := World.block_lt_of_cell? _ _ c2'
      have HB7 := Lib.hid (bup (bal HBR.out _) hb7)
      clear hb7 HF
      by_cases hd : day < ma
      · rw [if_pos hd] at hTb2 htn
        have hw1 : IntKind.i64.wrap (xa * (ma - day)) = xa * (ma - day) := IntWalk.i64_in _ (by omega)
        have hw2 : IntKind.i64.wrap (T + xa * (ma - day)) = T + xa * (ma - day) := IntWalk.i64_in _ (by omega)
        have hw3 : wrap64 (xa * (ma - day)) = xa * (ma - day) := (IntWalk.i64_left _).symm.trans hw1
        have hw4 : wrap64 (T + xa * (ma - day)) = T + xa * (ma - day) := (IntWalk.i64_left _).symm.trans hw2
        have HS2 := Lib.hid (show sumF (tmN R day) (R.hs.take (k + 1)) = T + xa * (ma - day) by rw [HT.out, if_pos hd])
        have HU2 := Lib.hid (show sumF (tmD R day) (R.hs.take (k + 1)) = U + xa by rw [HU.out, if_pos hd])
        clear HT HU htn
        go_upto_region 12 with fail
        go_quiet (fail)
        try simp only [hw1, hw2, hw3, hw4]
        go_wp2
        try simp only [hw1, hw2, hw3, hw4]
        go_roundw
        case rel => exact ⟨k + 1, by omega, by go_num, by rw [HS2.out], by rw [HU2.out], below_drewZ (bal HB7.out _) _⟩
        case measure => simp [intOf]; omega
      · have HS2 := Lib.hid (show sumF (tmN R day) (R.hs.take (k + 1)) = T by rw [HT.out, if_neg hd]; omega)
        have HU2 := Lib.hid (show sumF (tmD R day) (R.hs.take (k + 1)) = U by rw [HU.out, if_neg hd]; omega)
        clear HT HU
        go_wp2
        go_roundw
        case rel => exact ⟨k + 1, by omega, by go_num, by rw [HS2.out], by rw [HU2.out], bal HB7.out _⟩
        case measure => simp [intOf]; omega
    · obtain rfl : k = n1 := by omega
      rw [List.take_of_length_le (Nat.le_of_eq HL1.out)]
      go_wp2
      go_ret3
      exact ⟨by rw [HN.out, HD.out, HE.out]; rfl, bup HB1.out hbr⟩
end Go.Proofs.Ytpoidaenkjjdfaa
namespace Go.Proofs.Ytpoidaenkjjdfaa
open Go.RowKit
set_option linter.unusedVariables false
set_option linter.unusedSimpArgs false
/-- the place of the greatest among the first k -/
structure BestAt (l : List Int) (k bn : Nat) (m : Int) : Prop where
  at_ : l[bn]? = some m
  le : ∀ j x, j < k → l[j]? = some x → x ≤ m
  lt : ∀ j x, j < bn → l[j]? = some x → x < m
theorem BestAt.start {l : List Int} {m : Int} (h : l[0]? = some m) : BestAt l 0 0 m := ⟨h, fun _ _ hj => by omega, fun _ _ hj => by omega⟩
theorem BestAt.keep {l : List Int} {k bn : Nat} {m x : Int} (h : BestAt l k bn m) (hx : l[k]? = some x) (hm : x ≤ m) : BestAt l (k + 1) bn m :=
  ⟨h.at_, fun j y hj hy => by
    rcases Nat.lt_or_ge j k with h1 | h1
    · exact h.le j y h1 hy
    · obtain rfl : j = k := by omega
      rw [hx] at hy; cases hy; exact hm, h.lt⟩
theorem BestAt.next {l : List Int} {k bn : Nat} {m x : Int} (h : BestAt l k bn m) (hx : l[k]? = some x) (hm : m < x) : BestAt l (k + 1) k x :=
  ⟨hx, fun j y hj hy => by
    rcases Nat.lt_or_ge j k with h1 | h1
    · have := h.le j y h1 hy; omega
    · obtain rfl : j = k := by omega
      rw [hx] at hy; cases hy; omega, fun j y hj hy => by have := h.le j y hj hy; omega⟩
theorem BestAt.done {l : List Int} {bn : Nat} {m : Int} (h : BestAt l l.length bn m) : m = mxL l ∧ ixL l m = bn := by
  have hmem := List.mem_of_getElem? h.at_
  have h1 := mxL_ge _ hmem
  have hl : 1 ≤ l.length := by have := List.length_pos_of_mem hmem; omega
  obtain ⟨j, hj, he⟩ := List.mem_iff_getElem.1 (mxL_mem hl)
  have h2 := h.le j _ hj (List.getElem?_eq_some_iff.2 ⟨hj, he⟩)
  refine ⟨by omega, ixL_at h.at_ fun j hj hx => ?_⟩
  have := h.lt j m hj hx
  omega
set_option maxHeartbeats 4000000 in
set_option maxRecDepth 100000 in
theorem fgreatest_any (P : Nat → Prop) (vs vh vm : Value) (R : Reg) (y0 n : Int) (w : World) (hr : RgIn P w vs vh vm R) (hS : R.secs.length ≤ 1000000) (hH : R.hs.length ≤ 1000000) (hM : R.ms.length ≤ 1000000) :
    Calls Try.prog 62 #[.agg #[vs, vh, vm], .int .i64 y0, .int .i64 n] w fun e w' => e = .returned (.tuple #[.int .i64 (gtY R y0 n), .int .i64 (gtP R y0 n), .int .i64 (fsE R y0 n)]) ∧ Below w.heap.size w w' := by
  obtain ⟨a0, n0, c0, rfl, -, -, -⟩ := hr.S.shape
  obtain ⟨a1, n1, c1, rfl, -, -, -⟩ := hr.H.shape
  obtain ⟨a2, n2, c2, rfl, -, -, -⟩ := hr.M.shape
  have HFS := Lib.hid (fun W (hW : Below w.heap.size w W) => fFalls_any P _ _ _ R y0 n W (hr.below (w' := W) hW) hS hH hM)
  have HDB := Lib.hid (fun W (hW : Below w.heap.size w W) => fDebt_any P _ _ _ R W (hr.below (w' := W) hW) hS hH hM)
  clear hr
  by_cases h0 : fsE R y0 n = 0
  rotate_left
  · have HY := Lib.hid (show gtY R y0 n = 0 by unfold gtY; rw [if_neg h0])
    have HP := Lib.hid (show gtP R y0 n = 0 by unfold gtP; rw [if_neg h0])
    obtain ⟨E, hE⟩ : ∃ E, fsE R y0 n = E := ⟨_, rfl⟩
    rw [hE] at h0 HFS ⊢
    have hE1 : (E != 0) = true := by simpa using h0
    have hE2 : (E == 0) = false := by simpa using h0
    clear hE
    go_enter Try.func62, Try.ntmps62
    go_wp2_with fail
    refine (HFS.out _ (bal brefl _)).mono ?_
    rintro e w1 ⟨v1, rfl, hown, hb1⟩
    obtain ⟨f1, k1, rfl⟩ := own_slice0 hown
    have HB1 := Lib.hid (bup (bal brefl _) hb1)
    clear hb1 hown
    go_wp2
    go_ret3
    exact ⟨by rw [HY.out, HP.out]; rfl, HB1.out⟩
  obtain ⟨hok, hy, hn⟩ := fsE_zero h0
  have hlen := fsL_len h0
  have hbd := fsL_bd h0
  have hmem := mxL_mem (L := fsL R y0 n) (by omega)
  have hix := ixL_lt hmem
  have hmb := hbd _ hmem
  have hdb := hok.tot
  rw [hdb.2.2] at hdb
  have HY := Lib.hid (show gtY R y0 n = if mxL (fsL R y0 n) = 0 then 0 else y0 + ixL (fsL R y0 n) (mxL (fsL R y0 n)) by unfold gtY; rw [if_pos h0])
  have HP := Lib.hid (show gtP R y0 n = if mxL (fsL R y0 n) = 0 then 0 else mxL (fsL R y0 n) * 100 / rgDebt R by unfold gtP; rw [if_pos h0])
  rw [h0] at HFS ⊢
  clear h0
  obtain ⟨L, hL⟩ : ∃ L, fsL R y0 n = L := ⟨_, rfl⟩
  obtain ⟨D, hD⟩ : ∃ D, rgDebt R = D := ⟨_, rfl⟩
  rw [hL] at hlen hmem hix hmb HY HP HFS hbd
  rw [hD] at HP hdb hmb HDB
  obtain ⟨z, hz⟩ : ∃ z : Nat, n.toNat = z := ⟨_, rfl⟩
  rw [hz] at hlen
  have hz1 : 1 ≤ z ∧ z ≤ 60 := by omega
  have HLEN := Lib.hid hlen
  clear hL hD hbd
  go_enter Try.func62, Try.ntmps62
  go_wp2_with fail
  refine (HFS.out _ (bal brefl _)).mono ?_
  rintro e w1 ⟨v1, rfl, hown, hb1⟩
  have r0 := (show w1.cell? ⟨w.heap.size, 0, none⟩ = some (.slice a0 n0 c0) from boxed_cell hb1 0 rfl)
  have r1 := (show w1.cell? ⟨w.heap.size, 1, none⟩ = some (.slice a1 n1 c1) from boxed_cell hb1 1 rfl)
  have r2 := (show w1.cell? ⟨w.heap.size, 2, none⟩ = some (.slice a2 n2 c2) from boxed_cell hb1 2 rfl)
  rw [hlen] at hown
  obtain ⟨f1, k1, rfl⟩ := own_slice0 hown
  have HB1 := Lib.hid (bup (bal brefl _) hb1)
  have ho1 : Sl 1 encI (fun _ => True) w1 (.slice f1 z k1) L := Sl.own encI_len hown hlen (fun _ _ => trivial)
  have HO1 := Lib.hid ho1
  obtain ⟨bq, oq, x0, hfe, -, -, hx0, -⟩ := ho1.int (k := 0) (by omega)
  have HX0 := Lib.hid (BestAt.start hx0)
  clear hb1 hown ho1 hlen hz hx0 hfe
  go_wp2_with fail
  go_loop [11, 26] (fun bv iv => ∃ (k bn : Nat) (m : Int), k ≤ z ∧ bn < z ∧ iv = .int .i64 k ∧ bv = .int .i64 bn ∧ BestAt L k bn m) (fun _ iv => z - (intOf iv).toNat)
  case atStart => exact ⟨0, 0, x0, by omega, by omega, rfl, rfl, HX0.out⟩
  case round =>
    obtain ⟨k, bn, m, hk, hbn, rfl, rfl, hbest⟩ := hrel
    have HB := Lib.hid hbest
    obtain ⟨b', o', m', rfl, -, hbl', hm', hc'⟩ := HO1.out.int hbn
    obtain rfl : m = m' := by have := hbest.at_; rw [hm'] at this; cases this; rfl
    clear hbest hm'
    by_cases hlt : k < z
    · obtain ⟨b, o, x, he, -, hbl, hx, hc⟩ := HO1.out.int hlt
      cases he
      have HX := Lib.hid hx
      clear hx
      by_cases hg : m < x
      · have HN := Lib.hid (HB.out.next HX.out hg)
        go_wp2
        go_round
        case rel => exact ⟨k + 1, k, x, by omega, by omega, by go_num, rfl, HN.out⟩
        case measure => simp [intOf]; omega
      · have HN := Lib.hid (HB.out.keep HX.out (by omega))
        go_wp2
        go_round
        case rel => exact ⟨k + 1, bn, m, by omega, by omega, by go_num, rfl, HN.out⟩
        case measure => simp [intOf]; omega
    · obtain rfl : k = z := by omega
      have hdn := HB.out
      rw [← HLEN.out] at hdn
      obtain ⟨hd1, hd2⟩ := hdn.done
      have HY2 := Lib.hid (show gtY R y0 n = if m = 0 then 0 else y0 + bn by rw [HY.out, ← hd1, hd2])
      have HP2 := Lib.hid (show gtP R y0 n = if m = 0 then 0 else m * 100 / D by rw [HP.out, ← hd1])
      rw [← hd1] at hmb
      clear hd1 hd2 hdn HY HP hix hmem
      by_cases hz0 : m = 0
      · subst hz0
        go_wp2
        go_ret3
        exact ⟨by rw [HY2.out, HP2.out]; rfl, HB1.out⟩
      · have hq1 : (m == 0) = false := by simpa using hz0
        have hY := HY2.out
        have hP := HP2.out
        rw [if_neg hz0] at hY hP
        have HY3 := Lib.hid hY
        have HP3 := Lib.hid hP
        clear hY hP HY2 HP2
        go_upto_region 13 with fail
        have hdp : 0 < D := by omega
        have hd0 : D ≠ 0 := by omega
        have u0 := up_cell r0
        have u1 := up_cell r1
        have u2 := up_cell r2
        have u3 := up_cell hc'
        have hw1 : IntKind.i64.wrap (m * 100) = m * 100 := IntWalk.i64_in _ (by omega)
        have hw3 : (m * 100).tdiv D = m * 100 / D := Int.tdiv_eq_ediv_of_nonneg (by omega)
        have K1 := Lib.hid (fun W (hW : Below w1.heap.size w1 W) => HDB.out W (bup HB1.out hW))
        (refine wp_region_up (by kernel_rfl) (by kernel_rfl) ?_); (repeat (go_big_quiet_step ((go_at_call 20; (with_reducible refine (K1.out _ (up_prop _)).mono ?_); exact fun _ _ hh => ⟨hh.1, ⟨_, bup (Subtype.property _) hh.2⟩, rfl⟩)))); (refine wpQuiet_nil ?_); (rintro w3 ⟨⟨_, hb3⟩, rfl⟩)
        go_wp2
        go_ret3
        have hq0 : 0 ≤ m * 100 / D := Int.ediv_nonneg (by omega) (by omega)
        have hq2 : m * 100 / D ≤ m * 100 := Int.ediv_le_self _ (by omega)
        have hqi : -9223372036854775808 ≤ m * 100 / D ∧ m * 100 / D ≤ 9223372036854775807 := ⟨by omega, by omega⟩
        have hw4 : wrap64 (m * 100 / D) = m * 100 / D := IntWalk.wrap64_in _ hqi
        refine ⟨?_, bup HB1.out hb3⟩
        rw [HY3.out, HP3.out]
        show Ending.returned (.tuple #[.int .i64 (y0 + bn), .int .i64 (wrap64 (m * 100 / D)), .int .i64 0]) = _
        rw [hw4]
end Go.Proofs.Ytpoidaenkjjdfaa
