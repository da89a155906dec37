/- Strips: Rights; the reference's Same at equal vaults. The references' comparisons of lists, at equal lists. Printed by wip/gen/eqs.py. The statements on strips: the example's vault, sane; the reference's Same at equal vaults. -/
import Derived.Test.YthhoaefadfeknaaGreatZStL
import Derived.Test.YthhoaefadfeknaaGreatZRefN
import Derived.Test.YthhoaefadfeknaaGreatZRegP
import Derived.BigQuiet
import Derived.Test.YthhoaefadfeknaaGreatZStM
import Derived.Test.YthhoaefadfeknaaGreatZRefL5
namespace Go.Proofs.YthhoaefadfeknaaGreat
open Go.RowKit
set_option linter.unusedVariables false
set_option linter.unusedSimpArgs false
theorem outH_bd {R : Reg} (h : RgOk R) (id : Int) : 0 ≤ outH R.hs id ∧ outH R.hs id ≤ 1000000000000 :=
  ⟨outH_nonneg h.hok.pos id, h.hok.out id⟩
set_option maxHeartbeats 4000000 in
set_option maxRecDepth 100000 in
theorem vrights_any (P : Nat → Prop) (vs vh vm vt : Value) (R : Reg) (L : List Stp) (x d : Int) (p : Bool) (w : World) (hv : VkIn P w vs vh vm vt R L) :
    Calls Tryz.prog 42 #[.agg #[vs, vh, vm, vt], .int .i64 x, .int .i64 d, .bool p] w fun e w' => e = .returned (.int .i64 (rgN R L x d p)) ∧ Below w.heap.size w w' := by
  obtain ⟨a0, n0, c0, rfl, -, -, -⟩ := hv.rg.S.shape
  obtain ⟨a1, n1, c1, rfl, -, -, -⟩ := hv.rg.H.shape
  obtain ⟨a2, n2, c2, rfl, -, -, -⟩ := hv.rg.M.shape
  obtain ⟨a3, n3, c3, rfl, -, -, -⟩ := hv.st.shape
  have KC := Lib.hid (fun U (hU : Below w.heap.size w U) => vcheck_any P _ _ _ _ R L U (hv.below hU))
  obtain ⟨E1, hE1⟩ : ∃ E, vkE R L = E := ⟨_, rfl⟩
  rw [hE1] at KC
  obtain ⟨V, hV⟩ : ∃ V, rgN R L x d p = V := ⟨_, rfl⟩
  rw [hV]
  unfold rgN at hV
  rw [hE1] at hV
  have HV := Lib.hid hv
  have HVV := Lib.hid hV
  have HE1 := Lib.hid hE1
  clear hv hV hE1
  cases hf : findS R.secs x with
  | none =>
    have hV := HVV.out
    rw [hf] at hV
    have hV0 : V = 0 := by rw [← hV]; split <;> rfl
    subst hV0
    have KF := Lib.hid (fun U (hU : Below w.heap.size w U) => rfind_no P _ _ _ R x U (HV.out.rg.below hU) HV.out.lS hf)
    clear hf hV
    by_cases h1 : E1 = 0
    · subst h1
      go_enter Tryz.func42, Tryz.ntmps42
      go_wp2_with fail
      refine (KF.out _ (bal brefl _)).mono ?_
      rintro e w1 ⟨rfl, hb1⟩
      have b0 : w1.cell? ⟨w.heap.size, 0, none⟩ = some (.slice a0 n0 c0) := boxed_cell hb1 0 rfl
      have b1 : w1.cell? ⟨w.heap.size, 1, none⟩ = some (.slice a1 n1 c1) := boxed_cell hb1 1 rfl
      have b2 : w1.cell? ⟨w.heap.size, 2, none⟩ = some (.slice a2 n2 c2) := boxed_cell hb1 2 rfl
      have b3 : w1.cell? ⟨w.heap.size, 3, none⟩ = some (.slice a3 n3 c3) := boxed_cell hb1 3 rfl
      have HB := Lib.hid (bup (bal brefl _) hb1)
      have hz : w.heap.size < w1.heap.size := World.block_lt_of_cell? _ _ b0
      clear hb1
      go_wp2_with fail
      refine (KC.out _ (bal HB.out _)).mono ?_
      rintro e w2 ⟨rfl, hb2⟩
      go_wp2
      go_ret
      exact ⟨rfl, bup (bal HB.out _) hb2⟩
    · have g1 : (E1 != 0) = true := by simpa using h1
      have g2 : (E1 == 0) = false := by simpa using h1
      go_enter Tryz.func42, Tryz.ntmps42
      go_wp2_with fail
      refine (KF.out _ (bal brefl _)).mono ?_
      rintro e w1 ⟨rfl, hb1⟩
      have b0 : w1.cell? ⟨w.heap.size, 0, none⟩ = some (.slice a0 n0 c0) := boxed_cell hb1 0 rfl
      have b1 : w1.cell? ⟨w.heap.size, 1, none⟩ = some (.slice a1 n1 c1) := boxed_cell hb1 1 rfl
      have b2 : w1.cell? ⟨w.heap.size, 2, none⟩ = some (.slice a2 n2 c2) := boxed_cell hb1 2 rfl
      have b3 : w1.cell? ⟨w.heap.size, 3, none⟩ = some (.slice a3 n3 c3) := boxed_cell hb1 3 rfl
      have HB := Lib.hid (bup (bal brefl _) hb1)
      have hz : w.heap.size < w1.heap.size := World.block_lt_of_cell? _ _ b0
      clear hb1
      go_wp2_with fail
      refine (KC.out _ (bal HB.out _)).mono ?_
      rintro e w2 ⟨rfl, hb2⟩
      go_wp2
      go_ret
      exact ⟨rfl, bup (bal HB.out _) hb2⟩
  | some s =>
    obtain ⟨id, un, is, ma, ra, ev, ix⟩ := s
    have KF := Lib.hid (fun U (hU : Below w.heap.size w U) => rfind_yes P _ _ _ R x id un is ma ra ev ix U (HV.out.rg.below hU) HV.out.lS hf)
    have hV := HVV.out
    rw [hf] at hV
    simp only at hV
    by_cases h1 : E1 = 0
    case neg =>
      rw [if_neg h1] at hV
      subst hV
      have g1 : (E1 != 0) = true := by simpa using h1
      have g2 : (E1 == 0) = false := by simpa using h1
      clear hf
      go_enter Tryz.func42, Tryz.ntmps42
      go_wp2_with fail
      refine (KF.out _ (bal brefl _)).mono ?_
      rintro e w1 ⟨rfl, hb1⟩
      have b0 : w1.cell? ⟨w.heap.size, 0, none⟩ = some (.slice a0 n0 c0) := boxed_cell hb1 0 rfl
      have b1 : w1.cell? ⟨w.heap.size, 1, none⟩ = some (.slice a1 n1 c1) := boxed_cell hb1 1 rfl
      have b2 : w1.cell? ⟨w.heap.size, 2, none⟩ = some (.slice a2 n2 c2) := boxed_cell hb1 2 rfl
      have b3 : w1.cell? ⟨w.heap.size, 3, none⟩ = some (.slice a3 n3 c3) := boxed_cell hb1 3 rfl
      have HB := Lib.hid (bup (bal brefl _) hb1)
      have hz : w.heap.size < w1.heap.size := World.block_lt_of_cell? _ _ b0
      clear hb1
      go_wp2_with fail
      refine (KC.out _ (bal HB.out _)).mono ?_
      rintro e w2 ⟨rfl, hb2⟩
      go_wp2
      go_ret
      exact ⟨rfl, bup (bal HB.out _) hb2⟩
    subst h1
    rw [if_pos rfl] at hV
    obtain ⟨q, hq⟩ : ∃ q, possB ⟨id, un, is, ma, ra, ev, ix⟩ d p = q := ⟨_, rfl⟩
    have KP := Lib.hid (fun U => stpossible_any id un is ma ra ev ix d p U)
    rw [hq] at KP hV
    have hvk := vkE_iff.1 HE1.out
    have KO := Lib.hid (fun U (hU : Below w.heap.size w U) => rout_any P _ _ _ R x U (HV.out.rg.below hU) HV.out.lS HV.out.lH HV.out.lM)
    have KH := Lib.hid (fun U (hU : Below w.heap.size w U) => rheld_any P _ _ _ R x 1000 U (HV.out.rg.below hU) HV.out.lS HV.out.lH HV.out.lM)
    have KS := Lib.hid (fun U (hU : Below w.heap.size w U) => stsum_any P _ L x d p U (HV.out.st.below hU) hvk.amt (by have := hvk.ln; omega))
    have hob := outH_bd hvk.rg x
    have hck := chkE_iff.2 hvk.rg
    have ho1 : rgOut R x = outH R.hs x := by unfold rgOut; rw [if_pos hck]
    have hh1 : rgHeld R x 1000 = heldH R.hs x 1000 := by unfold rgHeld; rw [if_pos hck]
    have hhb : 0 ≤ heldH R.hs x 1000 ∧ heldH R.hs x 1000 ≤ 1000000000000 := ⟨heldH_nonneg hvk.rg.hok.pos x 1000, Int.le_trans (held_le_out hvk.rg.hok.pos x 1000) hob.2⟩
    have hsb := sumP_take hvk.amt x d p L.length
    rw [List.take_length] at hsb
    have hll := hvk.ln
    rw [ho1, hh1] at hV
    rw [ho1] at KO
    rw [hh1] at KH
    obtain ⟨o, ho⟩ : ∃ o, outH R.hs x = o := ⟨_, rfl⟩
    obtain ⟨h, hh⟩ : ∃ h, heldH R.hs x 1000 = h := ⟨_, rfl⟩
    obtain ⟨S, hS⟩ : ∃ S, sumP L x d p = S := ⟨_, rfl⟩
    rw [ho, hh, hS] at hV
    rw [ho] at KO hob
    rw [hh] at KH hhb
    rw [hS] at KS hsb
    have HW := Lib.hid hV
    obtain ⟨o0, o1⟩ := hob
    obtain ⟨h0, h1⟩ := hhb
    obtain ⟨s0, s1⟩ := hsb
    clear hf hV hvk hck ho1 hh1 ho hh hS hq
    cases q with
    | false =>
      have hV0 : V = 0 := HW.out.symm
      subst hV0
      go_enter Tryz.func42, Tryz.ntmps42
      go_wp2_with fail
      refine (KF.out _ (bal brefl _)).mono ?_
      rintro e w1 ⟨rfl, hb1⟩
      have b0 : w1.cell? ⟨w.heap.size, 0, none⟩ = some (.slice a0 n0 c0) := boxed_cell hb1 0 rfl
      have b1 : w1.cell? ⟨w.heap.size, 1, none⟩ = some (.slice a1 n1 c1) := boxed_cell hb1 1 rfl
      have b2 : w1.cell? ⟨w.heap.size, 2, none⟩ = some (.slice a2 n2 c2) := boxed_cell hb1 2 rfl
      have b3 : w1.cell? ⟨w.heap.size, 3, none⟩ = some (.slice a3 n3 c3) := boxed_cell hb1 3 rfl
      have HB := Lib.hid (bup (bal brefl _) hb1)
      have hz : w.heap.size < w1.heap.size := World.block_lt_of_cell? _ _ b0
      clear hb1
      go_wp2_with fail
      refine (KC.out _ (bal HB.out _)).mono ?_
      rintro e w2 ⟨rfl, hb2⟩
      have t0 : w2.cell? ⟨w1.heap.size, 0, none⟩ = some (.int .i64 id) := boxed_cell hb2 0 rfl
      have t1 : w2.cell? ⟨w1.heap.size, 1, none⟩ = some (.int .i64 un) := boxed_cell hb2 1 rfl
      have t2 : w2.cell? ⟨w1.heap.size, 2, none⟩ = some (.int .i64 is) := boxed_cell hb2 2 rfl
      have t3 : w2.cell? ⟨w1.heap.size, 3, none⟩ = some (.int .i64 ma) := boxed_cell hb2 3 rfl
      have t4 : w2.cell? ⟨w1.heap.size, 4, none⟩ = some (.int .i64 ra) := boxed_cell hb2 4 rfl
      have t5 : w2.cell? ⟨w1.heap.size, 5, none⟩ = some (.int .i64 ev) := boxed_cell hb2 5 rfl
      have t6 : w2.cell? ⟨w1.heap.size, 6, none⟩ = some (.bool ix) := boxed_cell hb2 6 rfl
      have HB2 := Lib.hid (bup (bal HB.out _) hb2)
      clear hb2
      go_wp2_with fail
      refine (KP.out _).mono ?_
      rintro e w3 ⟨rfl, hb3⟩
      go_wp2
      go_ret
      exact ⟨rfl, bup HB2.out hb3⟩
    | true =>
      have hV0 : o - h + S = V := HW.out
      go_enter Tryz.func42, Tryz.ntmps42
      go_wp2_with fail
      refine (KF.out _ (bal brefl _)).mono ?_
      rintro e w1 ⟨rfl, hb1⟩
      have b0 : w1.cell? ⟨w.heap.size, 0, none⟩ = some (.slice a0 n0 c0) := boxed_cell hb1 0 rfl
      have b1 : w1.cell? ⟨w.heap.size, 1, none⟩ = some (.slice a1 n1 c1) := boxed_cell hb1 1 rfl
      have b2 : w1.cell? ⟨w.heap.size, 2, none⟩ = some (.slice a2 n2 c2) := boxed_cell hb1 2 rfl
      have b3 : w1.cell? ⟨w.heap.size, 3, none⟩ = some (.slice a3 n3 c3) := boxed_cell hb1 3 rfl
      have HB := Lib.hid (bup (bal brefl _) hb1)
      have hz : w.heap.size < w1.heap.size := World.block_lt_of_cell? _ _ b0
      clear hb1
      go_wp2_with fail
      refine (KC.out _ (bal HB.out _)).mono ?_
      rintro e w2 ⟨rfl, hb2⟩
      have t0 : w2.cell? ⟨w1.heap.size, 0, none⟩ = some (.int .i64 id) := boxed_cell hb2 0 rfl
      have t1 : w2.cell? ⟨w1.heap.size, 1, none⟩ = some (.int .i64 un) := boxed_cell hb2 1 rfl
      have t2 : w2.cell? ⟨w1.heap.size, 2, none⟩ = some (.int .i64 is) := boxed_cell hb2 2 rfl
      have t3 : w2.cell? ⟨w1.heap.size, 3, none⟩ = some (.int .i64 ma) := boxed_cell hb2 3 rfl
      have t4 : w2.cell? ⟨w1.heap.size, 4, none⟩ = some (.int .i64 ra) := boxed_cell hb2 4 rfl
      have t5 : w2.cell? ⟨w1.heap.size, 5, none⟩ = some (.int .i64 ev) := boxed_cell hb2 5 rfl
      have t6 : w2.cell? ⟨w1.heap.size, 6, none⟩ = some (.bool ix) := boxed_cell hb2 6 rfl
      replace b0 := keepB (bup (bal brefl _) hb2) b0
      replace b1 := keepB (bup (bal brefl _) hb2) b1
      replace b2 := keepB (bup (bal brefl _) hb2) b2
      replace b3 := keepB (bup (bal brefl _) hb2) b3
      have HB2 := Lib.hid (bup (bal HB.out _) hb2)
      clear hb2
      go_wp2_with fail
      refine (KP.out _).mono ?_
      rintro e w3 ⟨rfl, hb3⟩
      have ub0 := up_cell (keepB hb3 b0)
      have ub1 := up_cell (keepB hb3 b1)
      have ub2 := up_cell (keepB hb3 b2)
      have ub3 := up_cell (keepB hb3 b3)
      have HB3 := Lib.hid (bup HB2.out hb3)
      clear hb3
      go_upto_region 4 with fail
      (refine wp_region_up (by kernel_rfl) (by kernel_rfl) ?_); (repeat (go_big_quiet_step ((first | (go_at_call 111; refine (KO.out _ (bup HB3.out (up_prop _))).mono ?_; exact fun _ _ hh => ⟨hh.1, ⟨_, bup (up_prop _) hh.2⟩, rfl⟩) | (go_at_call 112; refine (KH.out _ (bup HB3.out (up_prop _))).mono ?_; exact fun _ _ hh => ⟨hh.1, ⟨_, bup (up_prop _) hh.2⟩, rfl⟩) | (go_at_call 113; refine (KS.out _ (bup HB3.out (up_prop _))).mono ?_; exact fun _ _ hh => ⟨hh.1, ⟨_, bup (up_prop _) hh.2⟩, rfl⟩))))); (refine wpQuiet_nil ?_); (rintro w4 ⟨⟨_, hb4⟩, rfl⟩)
      go_wp2
      go_ret
      exact ⟨by first | rfl | exact ret_int hV0, bup HB3.out hb4⟩
end Go.Proofs.YthhoaefadfeknaaGreat
namespace Go.Proofs.YthhoaefadfeknaaGreat
open Go.RowKit
set_option linter.unusedVariables false
set_option linter.unusedSimpArgs false
set_option maxHeartbeats 1000000 in
theorem flows_eq (P P' : Nat → Prop) (v v' : Value) (L : List Flow) (w : World) (h : Sl 4 encFlow P w v L) (h' : Sl 4 encFlow P' w v' L) (hl : L.length ≤ 100000000) :
    Calls Tryz.prog 70 #[v, v'] w fun e w' => e = .returned (.bool true) ∧ Below w.heap.size w w' := by
  obtain ⟨ao, n, c, rfl, hn, hnc, hcm⟩ := h.shape
  obtain ⟨ao', n', c', rfl, hn', hnc', hcm'⟩ := h'.shape
  obtain rfl : n = n' := by omega
  have hn1 : n ≤ 100000000 := by omega
  have H := Lib.hid h
  have H' := Lib.hid h'
  clear h h' hn hn' hl
  go_enter Tryz.func70, Tryz.ntmps70
  go_wp2
  go_loopw [13] (fun iv wr => ∃ k : Nat, k ≤ n ∧ iv = .int .i64 k ∧ Below w.heap.size w wr) (fun iv _ => n - (intOf iv).toNat)
  case atStart => exact ⟨0, by omega, rfl, Below.refl _ _⟩
  case round =>
    obtain ⟨k, hk, rfl, hbr⟩ := hrel
    by_cases hlt : k < n
    · obtain ⟨b, off, x0, x1, x2, x3, rfl, -, hbl, hx, k0, k1, k2, k3⟩ := (H.out.below hbr).flow hlt
      obtain ⟨b', off', y0, y1, y2, y3, rfl, -, hbl', hx', j0, j1, j2, j3⟩ := (H'.out.below hbr).flow hlt
      rw [hx] at hx'
      cases hx'
      clear hx
      go_wp2
      go_quiet (fail)
      go_wp2
      go_roundw
      case rel => exact ⟨k + 1, by omega, by go_num, ⟨hbr.os, hbr.tape, hbr.output, hbr.size, hbr.block⟩⟩
      case measure => simp [intOf]; omega
    · go_wp2
      go_ret
      exact ⟨rfl, hbr⟩
set_option maxHeartbeats 1000000 in
theorem dues_eq (P P' : Nat → Prop) (v v' : Value) (L : List Due) (w : World) (h : Sl 5 encDue P w v L) (h' : Sl 5 encDue P' w v' L) (hl : L.length ≤ 100000000) :
    Calls Tryz.prog 37 #[v, v'] w fun e w' => e = .returned (.bool true) ∧ Below w.heap.size w w' := by
  obtain ⟨ao, n, c, rfl, hn, hnc, hcm⟩ := h.shape
  obtain ⟨ao', n', c', rfl, hn', hnc', hcm'⟩ := h'.shape
  obtain rfl : n = n' := by omega
  have hn1 : n ≤ 100000000 := by omega
  have H := Lib.hid h
  have H' := Lib.hid h'
  clear h h' hn hn' hl
  go_enter Tryz.func37, Tryz.ntmps37
  go_wp2
  go_loopw [13] (fun iv wr => ∃ k : Nat, k ≤ n ∧ iv = .int .i64 k ∧ Below w.heap.size w wr) (fun iv _ => n - (intOf iv).toNat)
  case atStart => exact ⟨0, by omega, rfl, Below.refl _ _⟩
  case round =>
    obtain ⟨k, hk, rfl, hbr⟩ := hrel
    by_cases hlt : k < n
    · obtain ⟨b, off, x0, x1, x2, x3, x4, rfl, -, hbl, hx, k0, k1, k2, k3, k4⟩ := (H.out.below hbr).due hlt
      obtain ⟨b', off', y0, y1, y2, y3, y4, rfl, -, hbl', hx', j0, j1, j2, j3, j4⟩ := (H'.out.below hbr).due hlt
      rw [hx] at hx'
      cases hx'
      clear hx
      go_wp2
      go_quiet (fail)
      go_wp2
      go_roundw
      case rel => exact ⟨k + 1, by omega, by go_num, ⟨hbr.os, hbr.tape, hbr.output, hbr.size, hbr.block⟩⟩
      case measure => simp [intOf]; omega
    · go_wp2
      go_ret
      exact ⟨rfl, hbr⟩
set_option maxHeartbeats 1000000 in
theorem strips_eq (P P' : Nat → Prop) (v v' : Value) (L : List Stp) (w : World) (h : Sl 5 encStp P w v L) (h' : Sl 5 encStp P' w v' L) (hl : L.length ≤ 100000000) :
    Calls Tryz.prog 48 #[v, v'] w fun e w' => e = .returned (.bool true) ∧ Below w.heap.size w w' := by
  obtain ⟨ao, n, c, rfl, hn, hnc, hcm⟩ := h.shape
  obtain ⟨ao', n', c', rfl, hn', hnc', hcm'⟩ := h'.shape
  obtain rfl : n = n' := by omega
  have hn1 : n ≤ 100000000 := by omega
  have H := Lib.hid h
  have H' := Lib.hid h'
  clear h h' hn hn' hl
  go_enter Tryz.func48, Tryz.ntmps48
  go_wp2
  go_loopw [13] (fun iv wr => ∃ k : Nat, k ≤ n ∧ iv = .int .i64 k ∧ Below w.heap.size w wr) (fun iv _ => n - (intOf iv).toNat)
  case atStart => exact ⟨0, by omega, rfl, Below.refl _ _⟩
  case round =>
    obtain ⟨k, hk, rfl, hbr⟩ := hrel
    by_cases hlt : k < n
    · obtain ⟨b, off, x0, x1, x2, x3, x4, rfl, -, hbl, hx, k0, k1, k2, k3, k4⟩ := (H.out.below hbr).stp hlt
      obtain ⟨b', off', y0, y1, y2, y3, y4, rfl, -, hbl', hx', j0, j1, j2, j3, j4⟩ := (H'.out.below hbr).stp hlt
      rw [hx] at hx'
      cases hx'
      clear hx
      go_wp2
      go_quiet (fail)
      go_wp2
      go_roundw
      case rel => exact ⟨k + 1, by omega, by go_num, ⟨hbr.os, hbr.tape, hbr.output, hbr.size, hbr.block⟩⟩
      case measure => simp [intOf]; omega
    · go_wp2
      go_ret
      exact ⟨rfl, hbr⟩
end Go.Proofs.YthhoaefadfeknaaGreat
namespace Go.Proofs.YthhoaefadfeknaaGreat
open Go.RowKit
set_option linter.unusedVariables false
set_option linter.unusedSimpArgs false
set_option maxHeartbeats 1000000 in
theorem fvsame_eq (P P' : Nat → Prop) (vs vh vm vt us uh um ut : Value) (R : Reg) (L : List Stp) (w : World) (h : VkIn P w vs vh vm vt R L) (h' : VkIn P' w us uh um ut R L) :
    Calls Tryz.prog 55 #[.agg #[vs, vh, vm, vt], .agg #[us, uh, um, ut]] w fun e w' => e = .returned (.bool true) ∧ Below w.heap.size w w' := by
  obtain ⟨a0, n0, c0, rfl, -, -, -⟩ := h.rg.S.shape
  obtain ⟨a1, n1, c1, rfl, -, -, -⟩ := h.rg.H.shape
  obtain ⟨a2, n2, c2, rfl, -, -, -⟩ := h.rg.M.shape
  obtain ⟨a3, n3, c3, rfl, -, -, -⟩ := h.st.shape
  obtain ⟨e0, m0, d0, rfl, -, -, -⟩ := h'.rg.S.shape
  obtain ⟨e1, m1, d1, rfl, -, -, -⟩ := h'.rg.H.shape
  obtain ⟨e2, m2, d2, rfl, -, -, -⟩ := h'.rg.M.shape
  obtain ⟨e3, m3, d3, rfl, -, -, -⟩ := h'.st.shape
  have KS := Lib.hid (fun U (hU : Below w.heap.size w U) => fsame_eq P P' _ _ _ _ _ _ R U (h.rg.below hU) (h'.rg.below hU) h.lS h.lH h.lM)
  have KT := Lib.hid (fun U (hU : Below w.heap.size w U) => strips_eq P P' _ _ L U (h.st.below hU) (h'.st.below hU) (by have := h.lL; omega))
  clear h h'
  go_enter Tryz.func55, Tryz.ntmps55
  go_wp2_with fail
  refine (KS.out _ (bal (bal brefl _) _)).mono ?_
  rintro e w1 ⟨rfl, hb1⟩
  have b3 : w1.cell? ⟨w.heap.size, 3, none⟩ = some (.slice a3 n3 c3) := (hb1.cell (p := ⟨w.heap.size, 3, none⟩) (by simp; omega)).trans ((World.cell?_alloc_past _ _ _ (by simp)).trans (World.cell?_alloc_at _ _ _ _ rfl))
  have f3 : w1.cell? ⟨w.heap.size + 1, 3, none⟩ = some (.slice e3 m3 d3) := by have q := boxed_cell hb1 3 (v := .slice e3 m3 d3) rfl; simpa using q
  have HB := Lib.hid (bup (bal (bal brefl _) _) hb1)
  clear hb1
  go_wp2_with fail
  refine (KT.out _ HB.out).mono ?_
  rintro e w2 ⟨rfl, hb2⟩
  go_wp2
  go_ret
  exact ⟨rfl, bup HB.out hb2⟩
/-! the example's vault -/
def zS : Sec := ⟨1, 100, 0, 720, 5000, 6, false⟩
def zR : Reg := rmR (raR ⟨[], [], []⟩ zS) ⟨0, 0, 1, 1, 0, 1, 1000⟩
theorem zR_e1 : raE ⟨[], [], []⟩ zS = 0 := by kernel_rfl
theorem zR_e2 : rmE (raR ⟨[], [], []⟩ zS) ⟨0, 0, 1, 1, 0, 1, 1000⟩ = 0 := by kernel_rfl
theorem zR_ok : chkE zR = 0 := by kernel_rfl
theorem vkIn_ok {P : Nat → Prop} {w : World} {vs vh vm vt : Value} {R : Reg} {L : List Stp} (hr : RgIn P w vs vh vm R) (hs : Sl 5 encStp P w vt L) (hk : chkE R = 0) (hl : L.length ≤ 1000000) : VkIn P w vs vh vm vt R L := by
  have h := chkE_iff.1 hk
  exact ⟨hr, hs, by have := h.ls; omega, by have := h.hl; omega, by have := h.lm; omega, hl⟩
/-- a vault comes back, for a call that needs no more than that -/
def GotV (R : Reg) (L : List Stp) (w : World) (e : Ending) (w' : World) : Prop :=
  ∃ a0 n0 c0 a1 n1 c1 a2 n2 c2 a3 n3 c3, e = .returned (.agg #[.slice a0 n0 c0, .slice a1 n1 c1, .slice a2 n2 c2, .slice a3 n3 c3]) ∧ VkIn (fun b => w.heap.size ≤ b) w' (.slice a0 n0 c0) (.slice a1 n1 c1) (.slice a2 n2 c2) (.slice a3 n3 c3) R L ∧ Below w.heap.size w w'
set_option maxHeartbeats 4000000 in
set_option maxRecDepth 100000 in
theorem whole_any (w : World) : Calls Tryz.prog 52 #[] w (GotV zR [] w) := by
  have K1 := Lib.hid (fun (U : World) (hU : w.heap.size + 1 + 1 ≤ U.heap.size) => fadd_any (fun b => w.heap.size + 1 + 1 ≤ b) (.slice none 0 0) (.slice none 0 0) (.slice none 0 0) ⟨[], [], []⟩ 1 100 0 720 5000 6 false U (rgIn_nil _ _) (by simp) (by simp) (by simp) (fun b hb => by omega) (.inl rfl))
  have hz1 : chkE (raR ⟨[], [], []⟩ zS) = 0 := by kernel_rfl
  have h1 := chkE_iff.1 hz1
  have K2 := Lib.hid (fun (vs vh vm : Value) (U : World) (hr : RgIn (fun b => w.heap.size + 1 + 1 ≤ b) U vs vh vm (raR ⟨[], [], []⟩ zS)) (hU : w.heap.size + 1 + 1 ≤ U.heap.size) => fIssue_any (fun b => w.heap.size + 1 + 1 ≤ b) vs vh vm (raR ⟨[], [], []⟩ zS) 0 1 1 1000 U hr (by have := h1.ls; omega) (by have := h1.hl; omega) (by have := h1.lm; omega) (fun b hb => by omega))
  clear hz1 h1
  go_enter Tryz.func52, Tryz.ntmps52
  go_wp2_with fail
  refine (K1.out _ (by simp)).mono ?_
  rintro e w1 hg
  obtain ⟨a0, n0, c0, a1, n1, c1, a2, n2, c2, rfl, hq1, hb1⟩ := hg.shape
  have q0 : w1.cell? ⟨w.heap.size + 1, 0, none⟩ = some (.slice none 0 0) := by have q := boxed_cell hb1 0 (v := .slice none 0 0) rfl; simpa using q
  have q1 : w1.cell? ⟨w.heap.size + 1, 1, none⟩ = some (.slice none 0 0) := by have q := boxed_cell hb1 1 (v := .slice none 0 0) rfl; simpa using q
  have q2 : w1.cell? ⟨w.heap.size + 1, 2, none⟩ = some (.slice none 0 0) := by have q := boxed_cell hb1 2 (v := .slice none 0 0) rfl; simpa using q
  have hbx : w1.heap[w.heap.size + 1]? = some (.cells #[.slice none 0 0, .slice none 0 0, .slice none 0 0] 31 (0, 0)) := (hb1.block _ (by simp)).trans (heap_at (by simp))
  have hbv : w1.heap[w.heap.size]? = some (.cells #[.slice none 0 0, .slice none 0 0, .slice none 0 0, .slice none 0 0] 69 (0, 0)) := (hb1.block _ (by simp; omega)).trans ((heap_alloc_old _ _ (by simp)).trans (heap_alloc_new w _))
  have qf := fun o => frozen_of_row w1 (w.heap.size + 1) o _ _ hbx
  have HB := Lib.hid (bup (bal (bal brefl _) _) hb1)
  have z1 : w.heap.size + 1 + 1 ≤ w1.heap.size := by have := hb1.size; simpa using this
  obtain ⟨W2, hW2⟩ : ∃ W, W = ((w1.setCell ⟨w.heap.size + 1, 0, none⟩ (.slice a0 n0 c0)).setCell ⟨w.heap.size + 1, 1, none⟩ (.slice a1 n1 c1)).setCell ⟨w.heap.size + 1, 2, none⟩ (.slice a2 n2 c2) := ⟨_, rfl⟩
  have hq2 : RgIn (fun b => w.heap.size + 1 + 1 ≤ b) W2 (.slice a0 n0 c0) (.slice a1 n1 c1) (.slice a2 n2 c2) (raR ⟨[], [], []⟩ zS) := by rw [hW2]; exact hq1.set3 (fun k hk => by omega)
  have hb2 : Below w.heap.size w W2 := by rw [hW2]; exact bset3 HB.out (by omega) _ _ _
  have hz2 : w1.heap.size ≤ W2.heap.size := by rw [hW2]; simp [World.setCell]
  have hbx2 : W2.heap[w.heap.size + 1]? = some (.cells #[.slice a0 n0 c0, .slice a1 n1 c1, .slice a2 n2 c2] 31 (0, 0)) := by
    have i0 := heap_setCell_same w1 _ 0 _ _ (.slice a0 n0 c0) hbx
    have i1 := heap_setCell_same _ _ 1 _ _ (.slice a1 n1 c1) i0
    have i2 := heap_setCell_same _ _ 2 _ _ (.slice a2 n2 c2) i1
    rw [hW2, i2]; rfl
  have hbv2 : W2.heap[w.heap.size]? = some (.cells #[.slice none 0 0, .slice none 0 0, .slice none 0 0, .slice none 0 0] 69 (0, 0)) := by
    rw [hW2]; exact ((grownBy_set3 w1 (w.heap.size + 1) _ _ _).block _ (by omega) (by simp)).trans hbv
  have HW2 := Lib.hid hW2
  have HQ2 := Lib.hid hq2
  have HX2 := Lib.hid hbx2
  have HV2 := Lib.hid hbv2
  have HB2 := Lib.hid hb2
  clear hg hq1 hb1 hbx hbv hW2 hq2 hb2 hbx2 hbv2
  go_upto_region 3 with fail
  try rw [← HW2.out]
  clear q0 q1 q2 qf
  have q0 : W2.cell? ⟨w.heap.size + 1, 0, none⟩ = some (.slice a0 n0 c0) := cell_heap HX2.out rfl
  have q1 : W2.cell? ⟨w.heap.size + 1, 1, none⟩ = some (.slice a1 n1 c1) := cell_heap HX2.out rfl
  have q2 : W2.cell? ⟨w.heap.size + 1, 2, none⟩ = some (.slice a2 n2 c2) := cell_heap HX2.out rfl
  go_wp2_with fail
  refine (K2.out _ _ _ _ HQ2.out (by omega)).mono ?_
  rintro e w3 hg
  obtain ⟨e0, m0, d0, e1, m1, d1, e2, m2, d2, rfl, hq3, hb3⟩ := hg.shape
  replace q0 := keepB hb3 q0
  replace q1 := keepB hb3 q1
  replace q2 := keepB hb3 q2
  have hbx := (hb3.block _ (by omega)).trans HX2.out
  have hbv := (hb3.block _ (by omega)).trans HV2.out
  have qf := fun o => frozen_of_row w3 (w.heap.size + 1) o _ _ hbx
  have vf := fun o => frozen_of_row w3 w.heap.size o _ _ hbv
  have v0 : w3.cell? ⟨w.heap.size, 0, none⟩ = some (.slice none 0 0) := cell_heap hbv rfl
  have v1 : w3.cell? ⟨w.heap.size, 1, none⟩ = some (.slice none 0 0) := cell_heap hbv rfl
  have v2 : w3.cell? ⟨w.heap.size, 2, none⟩ = some (.slice none 0 0) := cell_heap hbv rfl
  have v3 : w3.cell? ⟨w.heap.size, 3, none⟩ = some (.slice none 0 0) := cell_heap hbv rfl
  have HB3 := Lib.hid (bup HB2.out hb3)
  have HQ3 := Lib.hid hq3
  have z3 : w.heap.size + 1 < w3.heap.size := World.block_lt_of_cell? _ _ q0
  clear hg hq3 hb3 hbx hbv
  go_wp2
  refine bodyPost_ret (v := .agg #[.slice e0 m0 d0, .slice e1 m1 d1, .slice e2 m2 d2, .slice none 0 0]) (by simp [results, Tryz.results52, go_sem, *]) rfl ?_
  refine ⟨_, _, _, _, _, _, _, _, _, _, _, _, rfl, vkIn_ok (RgIn.mono (RgIn.grown (HQ3.out.set3 (fun k hk => by omega)) (vgrown4 _ w.heap.size _ _ _ _) (fun b hb => by omega)) (fun b hb _ => by omega)) Sl.nil zR_ok (by simp), ?_⟩
  exact vset4 (bset3 HB3.out (by omega) _ _ _) (Nat.le_refl _) _ _ _ _
theorem GaveV.got {P : Nat → Prop} {R : Reg} {L : List Stp} {E : Int} {w w' : World} {e : Ending} (h : GaveV P R L E w e w') (hk : chkE R = 0) (hl : L.length ≤ 1000000) :
    ∃ a0 n0 c0 a1 n1 c1 a2 n2 c2 a3 n3 c3, e = .returned (.tuple #[.agg #[.slice a0 n0 c0, .slice a1 n1 c1, .slice a2 n2 c2, .slice a3 n3 c3], .int .i64 E]) ∧ VkIn P w' (.slice a0 n0 c0) (.slice a1 n1 c1) (.slice a2 n2 c2) (.slice a3 n3 c3) R L ∧ Below w.heap.size w w' := by
  obtain ⟨a0, n0, c0, a1, n1, c1, a2, n2, c2, a3, n3, c3, rfl, hr, hs, hb⟩ := h.shape
  exact ⟨_, _, _, _, _, _, _, _, _, _, _, _, rfl, vkIn_ok hr hs hk hl, hb⟩
def sR : Reg := spR zR [] 0 1 1 400
def sL : List Stp := spL zR [] 0 1 1 400
theorem sane_e : spE zR [] 0 1 1 400 = 0 := by kernel_rfl
theorem sane_l : sL.length = 5 := by kernel_rfl
theorem sane_c : chkE sR = 0 := by kernel_rfl
theorem sane_r : rgN sR sL 1 180 false = 1000 := by kernel_rfl
theorem sane_k : vkE sR sL = 0 := by kernel_rfl
set_option maxHeartbeats 2000000 in
set_option maxRecDepth 100000 in
theorem sane37_any (w : World) : Calls Tryz.prog 44 #[] w fun e w' => e = .returned (.bool true) ∧ Below w.heap.size w w' := by
  go_enter Tryz.func44, Tryz.ntmps44
  go_wp2_with fail
  refine (whole_any _).mono ?_
  rintro e w1 ⟨a0, n0, c0, a1, n1, c1, a2, n2, c2, a3, n3, c3, rfl, hv1, hb1⟩
  have KS := stsplit_any (fun _ => True) _ _ _ _ zR [] 0 1 1 400 w1 (hv1.mono (fun _ _ _ => trivial)) (fun _ _ => trivial)
  rw [sane_e] at KS
  have HKS := Lib.hid KS
  clear KS hv1
  go_wp2_with fail
  refine HKS.out.mono ?_
  rintro e w2 hg
  obtain ⟨e0, m0, d0, e1, m1, d1, e2, m2, d2, e3, m3, d3, rfl, hv2, hb2⟩ := GaveV.got hg sane_c (by show sL.length ≤ _; rw [sane_l]; omega)
  have hm3 : m3 = 5 := by have := hv2.st.len; rw [← this]; exact sane_l
  subst hm3
  have KR := Lib.hid (fun U (hU : Below w2.heap.size w2 U) => vrights_any (fun _ => True) _ _ _ _ sR sL 1 180 false U (VkIn.below hv2 hU))
  have KC := Lib.hid (fun U (hU : Below w2.heap.size w2 U) => vcheck_any (fun _ => True) _ _ _ _ sR sL U (VkIn.below hv2 hU))
  rw [sane_r] at KR
  rw [sane_k] at KC
  have HB := Lib.hid (bup hb1 hb2)
  clear hg hv2 hb1 hb2
  go_wp2_with fail
  refine (KR.out _ (bal brefl _)).mono ?_
  rintro e w3 ⟨rfl, hb3⟩
  have v0 : w3.cell? ⟨w2.heap.size, 0, none⟩ = some (.slice e0 m0 d0) := boxed_cell hb3 0 rfl
  have v1 : w3.cell? ⟨w2.heap.size, 1, none⟩ = some (.slice e1 m1 d1) := boxed_cell hb3 1 rfl
  have v2 : w3.cell? ⟨w2.heap.size, 2, none⟩ = some (.slice e2 m2 d2) := boxed_cell hb3 2 rfl
  have v3 : w3.cell? ⟨w2.heap.size, 3, none⟩ = some (.slice e3 5 d3) := boxed_cell hb3 3 rfl
  have HB3 := Lib.hid (bup (bal brefl _) hb3)
  clear hb3
  go_wp2_with fail
  refine (KC.out _ HB3.out).mono ?_
  rintro e w4 ⟨rfl, hb4⟩
  go_wp2
  go_ret
  exact ⟨rfl, bup (bup HB.out HB3.out) hb4⟩
end Go.Proofs.YthhoaefadfeknaaGreat
