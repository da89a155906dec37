/- treasury/risk's Cost. -/
import Derived.Test.YtmhglabcnimegaaZRgM
import Derived.Test.YtmhglabcnimegaaZL39P
import Derived.BigQuiet
namespace Go.Proofs.Ytmhglabcnimegaa
open Go.RowKit
set_option linter.unusedVariables false
set_option linter.unusedSimpArgs false
theorem pathB_sh {L : List Int} (h : pathB L = true) (b : Int) : pathB (shL b L) = true := by
  have hl := pathB_len h
  unfold pathB at h ⊢
  rw [shL_len]
  simp only [Bool.and_eq_true, Bool.not_eq_true', decide_eq_true_eq] at h ⊢
  refine ⟨hl, ?_⟩
  unfold badR at h ⊢
  rw [List.any_eq_false] at h ⊢
  intro x hx
  unfold shL at hx
  obtain ⟨y, hy, rfl⟩ := List.mem_map.1 hx
  have := h.2 y hy
  simp only [Bool.not_eq_true', Bool.not_eq_false] at this ⊢
  unfold shR
  rw [if_pos this]
  exact inB_iff.2 (by omega)
theorem prE_sh {R : Reg} {y0 : Int} {L : List Int} (h : prE R y0 L = 0) (b : Int) : prE R y0 (shL b L) = 0 := by
  obtain ⟨h1, h2, h3, h4⟩ := prE_zero h
  unfold prE; rw [if_pos (chkE_iff.2 h1), if_pos (pathB_sh h2 b), if_pos (inB_iff.2 ⟨h3, h4⟩)]
/-- what a year costs more -/
def csD (R : Reg) (y0 : Int) (L : List Int) (b : Int) (k : Nat) : Int := prjI R y0 (shL b L) k - prjI R y0 L k
def csE (R : Reg) (y0 : Int) (L : List Int) (b : Int) : Int := if prE R y0 L = 0 then (if inB b (-20000) 20000 then 0 else 2) else prE R y0 L
def csV (R : Reg) (y0 : Int) (L : List Int) (b : Int) : Int := if csE R y0 L b = 0 then sumF (csD R y0 L b) (List.range L.length) else 0
theorem csD_bd {R : Reg} (h : RgOk R) {y0 : Int} {L : List Int} (hp : pathB L = true) (b : Int) (k : Nat) : -4000000000001 ≤ csD R y0 L b k ∧ csD R y0 L b k ≤ 4000000000001 := by
  have h1 := rais_bd h y0 k
  have h2 := oldR_bd hp k
  have h3 := oldR_bd (pathB_sh hp b) k
  have m1 := mul_bd h1.1 h1.2 h2.1 h2.2
  have m2 := mul_bd h1.1 h1.2 h3.1 h3.2
  unfold csD prjI
  omega
theorem prjI_bd {R : Reg} (h : RgOk R) {y0 : Int} {L : List Int} (hp : pathB L = true) (k : Nat) : 0 ≤ prjI R y0 L k ∧ prjI R y0 L k ≤ 304000000000001 := by
  have h1 := rais_bd h y0 k
  have h2 := oldR_bd hp k
  have h3 := coup_bd h (y0 + k)
  have m1 := mul_bd h1.1 h1.2 h2.1 h2.2
  unfold prjI
  omega
theorem sumF_bd2 {α : Type} {f : α → Int} {B : Int} : ∀ {L : List α}, (∀ x ∈ L, -B ≤ f x ∧ f x ≤ B) → -(B * L.length) ≤ sumF f L ∧ sumF f L ≤ B * L.length
  | [], _ => by simp [sumF]
  | x :: L, h => by
    have h1 := h x (List.mem_cons_self ..)
    have h2 := sumF_bd2 (L := L) (B := B) fun y hy => h y (List.mem_cons_of_mem _ hy)
    simp only [sumF, List.length_cons]
    rw [show ((L.length + 1 : Nat) : Int) = (L.length : Int) + 1 by omega, Int.mul_add]
    omega
theorem csS_bd {R : Reg} (h : RgOk R) {y0 : Int} {L : List Int} (hp : pathB L = true) (b : Int) {k : Nat} (hk : k ≤ 60) : -240000000000060 ≤ sumF (csD R y0 L b) (List.range k) ∧ sumF (csD R y0 L b) (List.range k) ≤ 240000000000060 := by
  have := sumF_bd2 (f := csD R y0 L b) (L := List.range k) (B := 4000000000001) fun j _ => csD_bd h hp b j
  rw [List.length_range] at this
  omega
theorem csS_succ (f : Nat → Int) (k : Nat) : sumF f (List.range (k + 1)) = sumF f (List.range k) + f k := by rw [List.range_succ, sumF_app]; simp [sumF]
set_option maxHeartbeats 4000000 in
set_option maxRecDepth 100000 in
theorem cost_any (P P2 : Nat → Prop) (vs vh vm v : Value) (R : Reg) (y0 b : Int) (L : List Int) (w : World) (hr : RgIn P w vs vh vm R) (hS : R.secs.length ≤ 1000000) (hH : R.hs.length ≤ 1000000) (hM : R.ms.length ≤ 1000000)
    (hv : Sl 1 encI P2 w v L) (hv1 : L.length ≤ 1000000) :
    Calls Try.prog 61 #[.agg #[vs, vh, vm], .int .i64 y0, v, .int .i64 b] w fun e w' => e = .returned (.tuple #[.int .i64 (csV R y0 L b), .int .i64 (csE R y0 L b)]) ∧ Below w.heap.size w w' := by
  obtain ⟨a0, n0, c0, rfl, -, -, -⟩ := hr.S.shape
  obtain ⟨a1, n1, c1, rfl, -, -, -⟩ := hr.H.shape
  obtain ⟨a2, n2, c2, rfl, -, -, -⟩ := hr.M.shape
  obtain ⟨a3, n3, c3, rfl, hl3, hnc3, hcm3⟩ := hv.shape
  have HR := Lib.hid hr
  have HV := Lib.hid hv
  have hn3 : n3 ≤ 1000000 := by omega
  have HP1 := Lib.hid (fun W (hW : Below w.heap.size w W) => project_any P P2 _ _ _ _ R y0 L W (hr.below (w' := W) hW) hS hH hM (hv.below hW) hv1)
  have HSH := Lib.hid (fun W (hW : Below w.heap.size w W) => shifted_any P2 _ L b W (hv.below hW) hv1)
  have HP2 := Lib.hid (fun W (hW : Below w.heap.size w W) v2 (P3 : Nat → Prop) (h3 : Sl 1 encI P3 W v2 (shL b L)) => project_any P P3 _ _ _ v2 R y0 (shL b L) W (hr.below (w' := W) hW) hS hH hM h3 (by rw [shL_len]; exact hv1))
  have HBB := Lib.hid (fun (W : World) => amongK_any b (-20000) 20000 W)
  have hz : csE R y0 L b ≠ 0 → csV R y0 L b = 0 := fun h => by unfold csV; rw [if_neg h]
  have HZ := Lib.hid hz
  clear hr hv hz
  by_cases h0 : prE R y0 L = 0
  rotate_left
  · obtain ⟨E, hE⟩ : ∃ E, prE R y0 L = E := ⟨_, rfl⟩
    rw [hE] at h0 HP1
    have hE1 : (E != 0) = true := by simpa using h0
    have hE2 : (E == 0) = false := by simpa using h0
    have HE := Lib.hid (show csE R y0 L b = E by unfold csE; rw [hE, if_neg h0])
    have HN := Lib.hid (HZ.out (by rw [HE.out]; exact h0))
    clear hE
    go_enter Try.func61, Try.ntmps61
    go_wp2_with fail
    refine (HP1.out _ (bal brefl _)).mono ?_
    rintro e w1 ⟨v1, rfl, hown, hb1⟩
    obtain ⟨f1, k1, rfl⟩ := own_slice0 hown
    have HB1 := Lib.hid (bup (bal brefl _) hb1)
    clear hb1 hown
    go_wp2
    go_ret2
    exact ⟨by rw [HN.out, HE.out]; rfl, HB1.out⟩
  rw [h0] at HP1
  have h00 := h0
  have H0 := Lib.hid h0
  obtain ⟨hok, hpb, hy0, hy1⟩ := prE_zero h00
  clear h0 h00
  cases hbb : inB b (-20000) 20000
  · rw [hbb] at HBB
    have HE := Lib.hid (show csE R y0 L b = 2 by unfold csE; rw [H0.out, hbb]; rfl)
    have HN := Lib.hid (HZ.out (by rw [HE.out]; decide))
    clear hbb
    go_enter Try.func61, Try.ntmps61
    go_wp2_with fail
    refine (HP1.out _ (bal brefl _)).mono ?_
    rintro e w1 ⟨v1, rfl, hown, hb1⟩
    obtain ⟨f1, k1, rfl⟩ := own_slice0 hown
    have HB1 := Lib.hid (bup (bal brefl _) hb1)
    clear hb1 hown
    go_wp2_with fail
    refine (HBB.out _).mono ?_
    rintro e w2 ⟨rfl, rfl⟩
    go_wp2
    go_ret2
    exact ⟨by rw [HN.out, HE.out]; rfl, HB1.out⟩
  rw [hbb] at HBB
  have HE := Lib.hid (show csE R y0 L b = 0 by unfold csE; rw [H0.out, hbb]; rfl)
  have HN := Lib.hid (show csV R y0 L b = sumF (csD R y0 L b) (List.range n3) by unfold csV; rw [HE.out, if_pos rfl, hl3])
  have HE2 := Lib.hid (prE_sh H0.out b)
  have HLA := Lib.hid (show (prL R y0 L).length = n3 by unfold prL; rw [if_pos H0.out]; simp [hl3])
  have HLB := Lib.hid (show (prL R y0 (shL b L)).length = n3 by unfold prL; rw [if_pos HE2.out]; simp [shL_len, hl3])
  have hn60 : n3 ≤ 60 := by have := (pathB_len hpb).2; omega
  have HOK := Lib.hid hok
  have HPB := Lib.hid hpb
  clear hbb hok hpb
  go_enter Try.func61, Try.ntmps61
  go_wp2_with fail
  refine (HP1.out _ (bal brefl _)).mono ?_
  rintro e w1 ⟨v1, rfl, hown, hb1⟩
  rw [HLA.out] at hown
  obtain ⟨f1, k1, rfl⟩ := own_slice0 hown
  have r0 := (show w1.cell? ⟨w.heap.size, 0, none⟩ = some (.slice a0 n0 c0) from boxed_cell hb1 0 rfl)
  have r1 := (show w1.cell? ⟨w.heap.size, 1, none⟩ = some (.slice a1 n1 c1) from boxed_cell hb1 1 rfl)
  have r2 := (show w1.cell? ⟨w.heap.size, 2, none⟩ = some (.slice a2 n2 c2) from boxed_cell hb1 2 rfl)
  have HB1 := Lib.hid (bup (bal brefl _) hb1)
  have HO1 := Lib.hid (Sl.own (P := fun _ => True) encSvc_len hown HLA.out (fun _ _ => trivial))
  clear hown hb1
  go_wp2_with fail
  refine (HBB.out _).mono ?_
  rintro e w2 ⟨rfl, rfl⟩
  go_upto_region 6 with fail
  go_cut [11, 12] (fun ev v2 wx => ∃ fo fc, v2 = .slice fo n3 fc ∧ ev = .int .i64 0 ∧ Sl 4 encSvc (fun _ => True) wx v2 (prL R y0 (shL b L)) ∧ Below w1.heap.size w1 wx)
  case first =>
    go_region_with (first
      | (go_at_call 63; refine (HSH.out _ ?_).mono ?_; (· first | exact HB1.out | exact bdr HB1.out); rintro e w3 ⟨v3, rfl, hown3, hb3⟩; have HX3 := Lib.hid (show Below w1.heap.size w1 w3 by first | exact hb3 | exact bup (bdr brefl) hb3); have HO3 := Lib.hid (Sl.own (P := fun _ => True) encI_len hown3 rfl (fun _ _ => trivial)); obtain ⟨f3, k3, rfl⟩ := own_slice0 hown3; have s0 := keepB HX3.out r0; have s1 := keepB HX3.out r1; have s2 := keepB HX3.out r2; clear hown3 hb3)
      | (go_at_call 51; refine (HP2.out _ ?_ _ _ HO3.out).mono ?_; (· exact bup HB1.out HX3.out); rw [HE2.out]; rintro e w4 ⟨v4, rfl, hown4, hb4⟩; have HX4 := Lib.hid (bup HX3.out hb4); rw [HLB.out] at hown4; have HO4 := Lib.hid (Sl.own (P := fun _ => True) encSvc_len hown4 HLB.out (fun _ _ => trivial)); obtain ⟨f4, k4, rfl⟩ := own_slice0 hown4; clear hown4 hb4))
    all_goals (go_wp2_with fail; go_meet)
    all_goals exact ⟨_, _, rfl, rfl, HO4.out, HX4.out⟩
  case rest =>
    obtain ⟨f2, k2, rfl, rfl, hO2, hBX⟩ := hcut
    have HO2 := Lib.hid hO2
    have HBX := Lib.hid (bup HB1.out hBX)
    have HO1' := Lib.hid (HO1.out.below hBX)
    clear hO2 hBX HP1 HP2 HSH HBB r0 r1 r2
    go_wp2_with fail
    generalize hW : wc = W at *
    go_loopw [13, 44] (fun sv iv wr => ∃ k : Nat, k ≤ n3 ∧ iv = .int .i64 k ∧ sv = .int .i64 (sumF (csD R y0 L b) (List.range k)) ∧ Below W.heap.size W wr) (fun _ iv _ => n3 - (intOf iv).toNat)
    case atStart => exact ⟨0, by omega, rfl, rfl, brefl⟩
    case round =>
      obtain ⟨k, hk, rfl, rfl, hbr⟩ := hrel
      have hsb := csS_bd HOK.out HPB.out (y0 := y0) b (k := k) (by omega)
      by_cases hlt : k < n3
      · obtain ⟨bA, oA, yA, iA, pA, dA, rfl, -, hblA, hxA, xA0, xA1, xA2, xA3⟩ := (HO1'.out.below hbr).svc hlt
        obtain ⟨bB, oB, yB, iB, pB, dB, rfl, -, hblB, hxB, xB0, xB1, xB2, xB3⟩ := (HO2.out.below hbr).svc hlt
        have eA : iA = prjI R y0 L k := congrArg Svc.i (prL_at H0.out hxA)
        have eB : iB = prjI R y0 (shL b L) k := congrArg Svc.i (prL_at HE2.out hxB)
        have bdA := prjI_bd HOK.out (y0 := y0) HPB.out k
        have bdB := prjI_bd HOK.out (y0 := y0) (pathB_sh HPB.out b) k
        rw [← eA] at bdA
        rw [← eB] at bdB
        have HSS := Lib.hid (show sumF (csD R y0 L b) (List.range (k + 1)) = sumF (csD R y0 L b) (List.range k) + (iB - iA) by rw [csS_succ, eA, eB]; rfl)
        obtain ⟨T, hT⟩ : ∃ T, sumF (csD R y0 L b) (List.range k) = T := ⟨_, rfl⟩
        rw [hT] at hsb HSS ⊢
        clear eA eB hxA hxB hT
        go_wp2
        go_quiet (fail)
        go_wp2
        go_roundw
        case rel => exact ⟨k + 1, by omega, by go_num, by rw [HSS.out], ⟨hbr.os, hbr.tape, hbr.output, hbr.size, hbr.block⟩⟩
        case measure => simp [intOf]; omega
      · obtain rfl : k = n3 := by omega
        have HBR := Lib.hid (bup HBX.out hbr)
        have HT1 := Lib.hid (show inB (sumF (csD R y0 L b) (List.range k)) (-1000000000000000) 1000000000000000 = true from inB_iff.2 (by omega))
        clear hbr
        go_wp2_with (go_at_call 109; refine (total_any _ _).mono ?_; rw [HT1.out]; rintro e w' ⟨rfl, rfl⟩)
        go_ret2
        exact ⟨by rw [HN.out, HE.out]; rfl, HBR.out⟩
end Go.Proofs.Ytmhglabcnimegaa
