/- treasuryref39's Project. Printed by wip/gen/rf9f.py out of XRgR. treasuryref39's Cost. -/
import Derived.Test.YtpoidaenkjjdfaaZRf9E
import Derived.Test.YtpoidaenkjjdfaaZRgR
import Derived.Test.YtpoidaenkjjdfaaZRfP
import Derived.Test.YtpoidaenkjjdfaaZRgK
namespace Go.Proofs.Ytpoidaenkjjdfaa
open Go.RowKit
set_option linter.unusedVariables false
set_option linter.unusedSimpArgs false
theorem days_in {id un is ma ra ev : Int} (h : SecOk id un is ma ra ev) : ∀ d ∈ daysL id un is ma ra ev, 0 ≤ d ∧ d ≤ 36000 := by
  intro d hd
  have hs := secB_iff.2 h
  have h0 := h.is0
  have h1 := h.ma0
  have h2 := h.ma2
  have h3 := h.ev
  unfold daysL dayN at hd
  rw [hs] at hd
  obtain ⟨j, hj, rfl⟩ := List.mem_map.1 hd
  have hj' := List.mem_range.1 hj
  clear hd hj
  unfold dayAt
  rcases h3 with ⟨rfl, _⟩ | ⟨rfl, _⟩ | ⟨rfl, _⟩ | ⟨rfl, _⟩ | ⟨rfl, _⟩ <;> simp at hj' <;> omega
theorem grown_of_below {w w' : World} {r : Option Nat} (hb : Below w.heap.size w w') : w.grownBy w' r := ⟨hb.os, hb.tape, hb.output, hb.size, fun k hk _ => hb.block k hk⟩
set_option maxHeartbeats 4000000 in
set_option maxRecDepth 100000 in
theorem fproject_any (P P2 : Nat → Prop) (vs vh vm v : Value) (R : Reg) (y0 : Int) (L : List Int) (w : World) (hr : RgIn P w vs vh vm R) (hS : R.secs.length ≤ 1000000) (hH : R.hs.length ≤ 1000000) (hM : R.ms.length ≤ 1000000)
    (hv : Sl 1 encI P2 w v L) (hv1 : L.length ≤ 1000000) :
    Calls Try.prog 55 #[.agg #[vs, vh, vm], .int .i64 y0, v] w (PrW (prL R y0 L) (prE R y0 L) w) := by
  obtain ⟨a0, n0, c0, rfl, -, -, -⟩ := hr.S.shape
  obtain ⟨a1, n1, c1, rfl, hl1, -, -⟩ := hr.H.shape
  have HL1 := Lib.hid hl1
  clear hl1
  obtain ⟨a2, n2, c2, rfl, -, -, -⟩ := hr.M.shape
  obtain ⟨a3, n3, c3, rfl, hl3, hnc3, hcm3⟩ := hv.shape
  have HR := Lib.hid hr
  have HV := Lib.hid hv
  have HL3 := Lib.hid hl3
  have hn3 : n3 ≤ 1000000 := by omega
  have HC := Lib.hid (fun W (hW : Below w.heap.size w W) => fcheck_any P _ _ _ R W (hr.below (w' := W) hW) hS hH hM)
  have HP := Lib.hid (fun W (hW : Below w.heap.size w W) => fpath_any P2 _ L W (hv.below hW) hv1)
  obtain ⟨E0, hE0⟩ : ∃ E, chkE R = E := ⟨_, rfl⟩
  obtain ⟨pb, hpb⟩ : ∃ b, pathB L = b := ⟨_, rfl⟩
  obtain ⟨yb, hyb⟩ : ∃ b, inB y0 0 100 = b := ⟨_, rfl⟩
  have hpe : prE R y0 L = if E0 = 0 then (if pb then (if yb then 0 else 2) else 84) else E0 := by unfold prE; rw [hE0, hpb, hyb]
  rw [hE0] at HC
  rw [hpb] at HP
  have HYB := Lib.hid (fun (W : World) => fyear_any y0 W)
  rw [hyb] at HYB
  have hnil : prE R y0 L ≠ 0 → prL R y0 L = [] := fun h => by unfold prL; rw [if_neg h]
  have HPE := Lib.hid hpe
  have HNIL := Lib.hid hnil
  have HE0 := Lib.hid hE0
  have HPB := Lib.hid hpb
  have HYI := Lib.hid hyb
  clear hr hv hl3 hE0 hpb hyb hpe hnil
  by_cases h0 : E0 = 0
  rotate_left
  · have hE1 : (E0 != 0) = true := by simpa using h0
    have hE2 : (E0 == 0) = false := by simpa using h0
    have HE : prE R y0 L = E0 := by rw [HPE.out, if_neg h0]
    have HN := Lib.hid (HNIL.out (by rw [HE]; exact h0))
    have HE' := Lib.hid HE
    clear HE
    go_enter Try.func55, Try.ntmps55
    go_wp2_with fail
    refine (HC.out _ (bal brefl _)).mono ?_
    rintro e w1 ⟨rfl, hb1⟩
    have HB1 := Lib.hid (bup (bal brefl _) hb1)
    clear hb1
    go_wp2
    go_ret2
    exact prW_nil HN.out HE'.out HB1.out
  subst h0
  cases pb
  · have HE : prE R y0 L = 84 := by rw [HPE.out]; simp
    have HN := Lib.hid (HNIL.out (by rw [HE]; decide))
    have HE' := Lib.hid HE
    clear HE
    go_enter Try.func55, Try.ntmps55
    go_wp2_with fail
    refine (HC.out _ (bal brefl _)).mono ?_
    rintro e w1 ⟨rfl, hb1⟩
    have HB1 := Lib.hid (bup (bal brefl _) hb1)
    clear hb1
    go_wp2_with fail
    refine (HP.out _ HB1.out).mono ?_
    rintro e w2 ⟨rfl, rfl⟩
    go_wp2
    go_ret2
    exact prW_nil HN.out HE'.out HB1.out
  cases yb
  · have HE : prE R y0 L = 2 := by rw [HPE.out]; simp
    have HN := Lib.hid (HNIL.out (by rw [HE]; decide))
    have HE' := Lib.hid HE
    clear HE
    go_enter Try.func55, Try.ntmps55
    go_wp2_with fail
    refine (HC.out _ (bal brefl _)).mono ?_
    rintro e w1 ⟨rfl, hb1⟩
    have HB1 := Lib.hid (bup (bal brefl _) hb1)
    clear hb1
    go_wp2_with fail
    refine (HP.out _ HB1.out).mono ?_
    rintro e w2 ⟨rfl, rfl⟩
    go_wp2_with fail
    refine (HYB.out _).mono ?_
    rintro e w3 ⟨rfl, rfl⟩
    go_wp2
    go_ret2
    exact prW_nil HN.out HE'.out HB1.out
  have HE : prE R y0 L = 0 := by rw [HPE.out]; simp
  have hLL : prL R y0 L = (List.range L.length).map (prjS R y0 L) := by unfold prL; rw [if_pos HE]
  have HLL := Lib.hid hLL
  have HE' := Lib.hid HE
  have HOK := Lib.hid (chkE_iff.1 HE0.out)
  have hy := inB_iff.1 HYI.out
  have HNL := Lib.hid (pathB_len HPB.out)
  have hn60 : n3 ≤ 60 := by have := HNL.out.2; have := HL3.out; omega
  obtain ⟨i1, hi, hz0, hz1, hz2⟩ := info_parts infoSvc
  have HFA := Lib.hid (fun W (hW : Below w.heap.size w W) y => ffalls1_any P _ _ _ R y W (HR.out.below hW) hS HOK.out)
  clear HE hLL HPE HNIL
  go_enter Try.func55, Try.ntmps55
  go_wp2_with fail
  refine (HC.out _ (bal brefl _)).mono ?_
  rintro e w1 ⟨rfl, hb1⟩
  have HR0 := Lib.hid (show w1.cell? ⟨w.heap.size, 0, none⟩ = some (.slice a0 n0 c0) from boxed_cell hb1 0 rfl)
  have HR1 := Lib.hid (show w1.cell? ⟨w.heap.size, 1, none⟩ = some (.slice a1 n1 c1) from boxed_cell hb1 1 rfl)
  have HR2 := Lib.hid (show w1.cell? ⟨w.heap.size, 2, none⟩ = some (.slice a2 n2 c2) from boxed_cell hb1 2 rfl)
  have HB1 := Lib.hid (bup (bal brefl _) hb1)
  have hz1' : w.heap.size < w1.heap.size := by have := hb1.size; simp at this; omega
  clear hb1
  go_wp2_with fail
  refine (HP.out _ HB1.out).mono ?_
  rintro e w2 ⟨rfl, rfl⟩
  go_wp2_with fail
  refine (HYB.out _).mono ?_
  rintro e w3 ⟨rfl, rfl⟩
  go_wp2_with fail
  clear HC HP HYB
  go_loopw [9, 10, 11, 37] (fun v rv ov iv wr => ∃ k : Nat, k ≤ n3 ∧ iv = .int .i64 k ∧ rv = .int .i64 (rais R y0 k) ∧ ov = .int .i64 (oldR L k) ∧ wr.ownsRow w1.heap.size 140 4 v k (flatE encSvc ((List.range k).map (prjS R y0 L))) ∧ Below w1.heap.size w1 wr) (fun _ _ _ iv _ => n3 - (intOf iv).toNat)
  case atStart => exact ⟨0, by omega, rfl, by rw [rais_zero], rfl, World.ownsRow_nil _ _ _ _, brefl⟩
  case round =>
    obtain ⟨k, hk, rfl, rfl, rfl, hown, hbr⟩ := hrel
    have HO := Lib.hid hown
    have HBR := Lib.hid hbr
    have HBr := Lib.hid (bup HB1.out hbr)
    have zr := hbr.size
    by_cases hlt : k < n3
    · obtain ⟨b, off, x, rfl, -, hbl, hxk, hck⟩ := (HV.out.below HBr.out).int hlt
      have hrb := rais_bd HOK.out y0 k
      have hob := oldR_bd HPB.out k
      have hor := Lib.hid (oldR_next hxk)
      have hrs := Lib.hid (rais_succ R y0 k)
      obtain ⟨rz, hrz⟩ : ∃ z, rais R y0 k = z := ⟨_, rfl⟩
      obtain ⟨oz, hoz⟩ : ∃ z, oldR L k = z := ⟨_, rfl⟩
      obtain ⟨hm0, hm1⟩ : 0 ≤ rz * oz ∧ rz * oz ≤ 20000000000000 * 20000 := by rw [← hrz, ← hoz]; exact mul_bd hrb.1 hrb.2 hob.1 hob.2
      have hq0 : 0 ≤ (rz * oz + 50000) / 100000 := Int.ediv_nonneg (by omega) (by omega)
      have hq1 : (rz * oz + 50000) / 100000 ≤ 4000000000001 := by omega
      have hcb := coup_bd HOK.out (y0 + k)
      have hfb := fall_bd HOK.out (y0 + k)
      have hlb := late_bd HOK.out (y0 + k)
      have hrb2 := rais_bd HOK.out y0 (k + 1)
      rw [hrs.out] at hrb2
      have HPS := Lib.hid (show prjS R y0 L k = ⟨y0 + k, sumF (coupF R (y0 + k)) R.hs + (rais R y0 k * oldR L k + 50000) / 100000, sumF (fallF R (y0 + k)) R.hs + rais R y0 k, sumF (lateF R (y0 + k)) R.hs + (sumF (fallF R (y0 + k)) R.hs + rais R y0 k)⟩ by unfold prjS prjI; rw [hrs.out])
      rw [hrz] at hrb hrs hrb2 HPS ⊢
      rw [hoz] at hob HPS ⊢
      have KF := Lib.hid (fun W hW => HFA.out W hW (y0 + k))
      obtain ⟨C, hC⟩ : ∃ z, sumF (coupF R (y0 + k)) R.hs = z := ⟨_, rfl⟩
      obtain ⟨F, hF⟩ : ∃ z, sumF (fallF R (y0 + k)) R.hs = z := ⟨_, rfl⟩
      obtain ⟨T, hT⟩ : ∃ z, sumF (lateF R (y0 + k)) R.hs = z := ⟨_, rfl⟩
      rw [hC] at hcb HPS
      rw [hF] at hfb KF HPS hrb2 hrs
      rw [hT] at hlb HPS
      have r0 := keepB hbr HR0.out
      have r1 := keepB hbr HR1.out
      have r2 := keepB hbr HR2.out
      have hne : w.heap.size < wr.heap.size := World.block_lt_of_cell? _ _ r0
      have HC2 := Lib.hid hC
      have HT2 := Lib.hid hT
      clear hown hbr hxk hrz hoz hC hF hT
      obtain ⟨V0, hV0⟩ : ∃ X, X = wr := ⟨_, rfl⟩
      subst hV0
      have hw1 : IntKind.i64.wrap (rz * oz) = rz * oz := IntWalk.i64_in _ (by omega)
      have hw2 : IntKind.i64.wrap (rz * oz + 50000) = rz * oz + 50000 := IntWalk.i64_in _ (by omega)
      have hw3 : (rz * oz + 50000).tdiv 100000 = (rz * oz + 50000) / 100000 := Int.tdiv_eq_ediv_of_nonneg (by omega)
      have hw4 : wrap64 ((rz * oz + 50000) / 100000) = (rz * oz + 50000) / 100000 := IntWalk.wrap64_in _ ⟨by omega, by omega⟩
      have hw1' : wrap64 (rz * oz) = rz * oz := (IntWalk.i64_left _).symm.trans hw1
      have hw2' : wrap64 (rz * oz + 50000) = rz * oz + 50000 := (IntWalk.i64_left _).symm.trans hw2
      go_upto_region 15 with fail
      try simp only [hw1, hw2, hw3, hw4, hw1', hw2']
      obtain ⟨I0, hI0⟩ : ∃ z, (rz * oz + 50000) / 100000 = z := ⟨_, rfl⟩
      rw [hI0] at hq0 hq1 HPS ⊢
      clear hw1 hw2 hw3 hw4 hw1' hw2' hI0
      obtain ⟨y, hy'⟩ : ∃ z : Int, y0 + (k : Int) = z := ⟨_, rfl⟩
      have hyb : 0 ≤ y ∧ y ≤ 160 := by omega
      rw [hy'] at HPS KF HC2 HT2 ⊢
      generalize hWB : World.alloc V0 _ = WB
      have hxB : WB.heap[V0.heap.size]? = some (.cells #[.int .i64 (y), .int .i64 (I0), .int .i64 (rz), .int .i64 (0)] 140 (0, 0)) := by rw [← hWB]; exact World.alloc_heap_new _ _
      have HXB := Lib.hid hxB
      have HBB := Lib.hid (show Below V0.heap.size V0 WB by rw [← hWB]; exact bal brefl _)
      have HNE := Lib.hid hne
      have zB : V0.heap.size < WB.heap.size := (Array.getElem?_eq_some_iff.1 hxB).1
      have r0B := keepB HBB.out r0
      have r1B := keepB HBB.out r1
      have r2B := keepB HBB.out r2
      have hneB : w.heap.size < WB.heap.size := by omega
      have hn1 : n1 ≤ 1000 := by have := HOK.out.rh.len; have := HL1.out; omega
      clear hWB hxB
      go_wp2_with fail
      go_loopw [56] (fun iv wx => ∃ i : Nat, i ≤ n1 ∧ iv = .int .i64 i ∧ wx.heap[V0.heap.size]? = some (.cells #[.int .i64 (y), .int .i64 (I0 + sumF (coupF R y) (R.hs.take i)), .int .i64 (rz), .int .i64 (sumF (lateF R y) (R.hs.take i))] 140 (0, 0)) ∧ Below V0.heap.size V0 wx) (fun iv _ => n1 - (intOf iv).toNat)
      case atStart => exact ⟨0, by omega, rfl, by simpa [sumF] using HXB.out, HBB.out⟩
      case round =>
        obtain ⟨wx, hwx⟩ : ∃ X, X = wr := ⟨_, rfl⟩
        subst hwx
        obtain ⟨i, hi', rfl, hxx, hbx⟩ := hrel
        have hcp := sumF_part (f := coupF R y) (L := R.hs) i fun x hx => (coupF_fine HOK.out y x hx).1
        have hlp := sumF_part (f := lateF R y) (L := R.hs) i fun x hx => (lateF_bd HOK.out.rh y x hx).1
        rw [HC2.out] at hcp
        rw [HT2.out] at hlp
        have HBX := Lib.hid hbx
        have HXX := Lib.hid hxx
        have t0 := keepB hbx r0
        have t1 := keepB hbx r1
        have t2 := keepB hbx r2
        have ztx := World.block_lt_of_cell? _ _ t0
        have zBx : V0.heap.size < wx.heap.size := (Array.getElem?_eq_some_iff.1 hxx).1
        by_cases hlti : i < n1
        · obtain ⟨b, off, xs, xh, xa, rfl, -, hbl, hxk, q0, q1, q2⟩ := (HR.out.below (bup HBr.out hbx)).H.hold hlti
          have hC2 := sumF_take (f := coupF R y) hxk
          have hT2 := sumF_take (f := lateF R y) hxk
          have hm := List.mem_of_getElem? hxk
          have hsc := HOK.out.rh.sec _ hm
          have ham := HOK.out.rh.amt _ hm
          have hF : coupF R y ⟨xs, xh, xa⟩ = sumF (dayG (cpN (secOf R ⟨xs, xh, xa⟩).id (secOf R ⟨xs, xh, xa⟩).un (secOf R ⟨xs, xh, xa⟩).is (secOf R ⟨xs, xh, xa⟩).ma (secOf R ⟨xs, xh, xa⟩).ra (secOf R ⟨xs, xh, xa⟩).ev xa) y) (daysL (secOf R ⟨xs, xh, xa⟩).id (secOf R ⟨xs, xh, xa⟩).un (secOf R ⟨xs, xh, xa⟩).is (secOf R ⟨xs, xh, xa⟩).ma (secOf R ⟨xs, xh, xa⟩).ra (secOf R ⟨xs, xh, xa⟩).ev) := rfl
          have hG : lateF R y ⟨xs, xh, xa⟩ = if yrOf (secOf R ⟨xs, xh, xa⟩).ma > y then xa else 0 := rfl
          rw [hF] at hC2
          rw [hG] at hT2
          obtain ⟨fb, hfind⟩ := ffind_of _ _ _ _ R ⟨xs, xh, xa⟩ (wx.alloc (Obj.cells #[Value.int IntKind.i64 xs, Value.int IntKind.i64 xh, Value.int IntKind.i64 xa] 98)) ((HR.out.below (bup HBr.out hbx)).below (bal brefl _)) hS
          obtain ⟨sx, hsx⟩ : ∃ s, secOf R ⟨xs, xh, xa⟩ = s := ⟨_, rfl⟩
          rw [hsx] at hfind hsc hC2 hT2
          obtain ⟨id, un, is, ma, ra, ev, ix⟩ := sx
          simp only at hsc hC2 hT2 ham
          have hm0 := hsc.ma0
          have hi0 := hsc.is0
          have hm2 := hsc.ma2
          have hcb2 := cpN_bd hsc ham.1 ham.2
          have hdin := days_in hsc
          have hdn := dayN_600 hsc
          have hlD : (daysL id un is ma ra ev).length ≤ 600 := by unfold daysL; simp; exact hdn
          have HCO := Lib.hid (fun (U : World) => r34coupon_any id un is ma ra ev ix xa U)
          have HDA := Lib.hid (fun (U : World) => (r34days_any id un is ma ra ev ix U).mono fun e w' h => daysMade_sl id un is ma ra ev ix h)
          obtain ⟨c, hc⟩ : ∃ z, cpN id un is ma ra ev xa = z := ⟨_, rfl⟩
          obtain ⟨ce, hce⟩ : ∃ z, ccE id un is ma ra ev xa = z := ⟨_, rfl⟩
          obtain ⟨D, hD⟩ : ∃ z, daysL id un is ma ra ev = z := ⟨_, rfl⟩
          rw [hc] at hcb2 HCO hC2
          rw [hce] at HCO
          rw [hD] at hdin hlD HDA hC2
          obtain ⟨S, hS1⟩ : ∃ z, sumF (coupF R y) (R.hs.take i) = z := ⟨_, rfl⟩
          obtain ⟨T1, hT1⟩ : ∃ z, sumF (lateF R y) (R.hs.take i) = z := ⟨_, rfl⟩
          rw [hS1] at hC2 hcp hxx HXX
          rw [hT1] at hT2 hlp hxx HXX
          have HCC := Lib.hid hC2
          have HTT := Lib.hid hT2
          have HFI := Lib.hid hfind
          have HDI := Lib.hid hdin
          have HLD0 := Lib.hid hlD
          clear hC2 hT2 hfind hdin hlD hF hG hsx hc hce hD hS1 hT1 hsc hm hdn hxk
          go_wp2_with fail
          refine HFI.out.mono ?_
          clear HFI
          rintro e w7 ⟨rfl, hb7⟩
          dsimp only [aggSec]
          have hh7 := (show w7.heap[wx.heap.size]? = some (.cells #[.int .i64 xs, .int .i64 xh, .int .i64 xa] 98 (0, 0)) from box_belowN hb7)
          have hB7 := bup (bal brefl _) hb7
          have hx7 := keep_box hB7 HXX.out
          have z7 : wx.heap.size < w7.heap.size := (Array.getElem?_eq_some_iff.1 hh7).1
          have HH7 := Lib.hid hh7
          have HX7 := Lib.hid hx7
          have HB7 := Lib.hid hB7
          clear hb7 hh7 hB7 hx7 q0 q1 q2 t0 t1 t2
          go_wp2_with fail
          refine (HDA.out _).mono ?_
          clear HDA
          rintro e w8 ⟨v8, rfl, hsl, hb8⟩
          obtain ⟨p, nd, cd, rfl, hld, hnc, hcm⟩ := hsl.shape
          have hs8 := (show w8.heap[w7.heap.size]? = some (.cells #[.int .i64 id, .int .i64 un, .int .i64 is, .int .i64 ma, .int .i64 ra, .int .i64 ev, .bool ix] 29 (0, 0)) from box_belowN hb8)
          have hB8 := bup (bal brefl _) hb8
          have z8 : w7.heap.size < w8.heap.size := (Array.getElem?_eq_some_iff.1 hs8).1
          have HX8 := Lib.hid (keep_box hB8 HX7.out)
          have HH8 := Lib.hid (keep_box hB8 HH7.out)
          have HS8 := Lib.hid hs8
          have HB8 := Lib.hid (bup HB7.out hB8)
          have HSL := Lib.hid (hsl.mono (Q := fun b => b ≠ V0.heap.size) fun b hb _ => by simp at hb; omega)
          have HLD := Lib.hid hld
          have hnd : nd ≤ 600 := by have := HLD0.out; omega
          clear hsl hb8 hs8 hB8 hld HX7 HH7 HLD0
          go_wp2_with fail
          go_loopw [70] (fun jv wz => ∃ j : Nat, j ≤ nd ∧ jv = .int .i64 j ∧ wz.heap[V0.heap.size]? = some (.cells #[.int .i64 (y), .int .i64 (I0 + S + sumF (dayG c y) (D.take j)), .int .i64 (rz), .int .i64 (T1)] 140 (0, 0)) ∧ w8.grownBy wz (some V0.heap.size)) (fun jv _ => nd - (intOf jv).toNat)
          case atStart => exact ⟨0, by omega, rfl, by simpa [sumF] using HX8.out, grown_of_below brefl⟩
          case round =>
            obtain ⟨wz, hwz⟩ : ∃ X, X = wr := ⟨_, rfl⟩
            subst hwz
            obtain ⟨j, hj, rfl, hxz, hgz⟩ := hrel
            have hgb := sumF_bdk (f := dayG c y) (B := 300000000000) (L := D) (k := j) (by omega) (fun d _ => by unfold dayG; split <;> omega) (by have := HLD.out; omega)
            have hhz := (hgz.block _ (by omega) (by simp; omega)).trans HH8.out
            have hsz := (hgz.block _ (by omega) (by simp; omega)).trans HS8.out
            have hzz := hgz.size
            have HXZ := Lib.hid hxz
            have HGZ := Lib.hid hgz
            have c0 := cell_heap (i := 0) hsz rfl
            have c1 := cell_heap (i := 1) hsz rfl
            have c2 := cell_heap (i := 2) hsz rfl
            have c3 := cell_heap (i := 3) hsz rfl
            have c4 := cell_heap (i := 4) hsz rfl
            have c5 := cell_heap (i := 5) hsz rfl
            have c6 := cell_heap (i := 6) hsz rfl
            have h2 := cell_heap (i := 2) hhz rfl
            have b0 := cell_heap (i := 0) hxz rfl
            have b1 := cell_heap (i := 1) hxz rfl
            have b2 := cell_heap (i := 2) hxz rfl
            have b3 := cell_heap (i := 3) hxz rfl
            have e1 := frozen_of_row wz _ 1 _ _ hxz
            have e3 := frozen_of_row wz _ 3 _ _ hxz
            have zz7 : w7.heap.size < wz.heap.size := by omega
            have zzx : wx.heap.size < wz.heap.size := by omega
            have zzr : V0.heap.size < wz.heap.size := by omega
            by_cases hltj : j < nd
            · obtain ⟨db, doff, d, rfl, hdp, hdl, hdk, hdc⟩ := (HSL.out.grown hgz (fun b hb => hb)).int hltj
              have hG := sumF_take (f := dayG c y) hdk
              have hdr := HDI.out d (List.mem_of_getElem? hdk)
              have hqq := quo_360 hdr.1 hdr.2
              have hg1 : dayG c y d = if yrOf d = y then c else 0 := rfl
              have hyq : 0 ≤ yrOf d ∧ yrOf d ≤ 100 := by rw [← hqq, Int.tdiv_eq_ediv_of_nonneg hdr.1]; omega
              obtain ⟨Y, hY⟩ : ∃ z, yrOf d = z := ⟨_, rfl⟩
              obtain ⟨G, hGG⟩ : ∃ z, sumF (dayG c y) (D.take j) = z := ⟨_, rfl⟩
              rw [hY] at hqq hg1 hyq
              rw [hg1] at hG
              rw [hGG] at hG hgb hxz HXZ b1
              have hwq : wrap64 (d.tdiv 360) = Y := by rw [hqq]; exact IntWalk.wrap64_in _ (by omega)
              have hwq' : IntKind.i64.wrap (d.tdiv 360) = Y := (IntWalk.i64_left _).trans hwq
              have HG := Lib.hid hG
              clear hG hg1 hY hGG hdk hxz hgz hhz hsz
              by_cases hyy : Y = y
              · have HG2 := Lib.hid (show sumF (dayG c y) (D.take (j + 1)) = G + c by rw [HG.out, if_pos hyy])
                have hq1 : (Y == y) = true := by simpa using hyy
                clear HG
                go_wp2_with fail
                refine (HCO.out _).mono ?_
                rintro e w9 ⟨rfl, hb9⟩
                have hx9 := keep_box hb9 HXZ.out
                have z9 := hb9.size
                have d1 := cell_heap (i := 1) hx9 rfl
                have df1 := frozen_of_row w9 _ 1 _ _ hx9
                have HX9 := Lib.hid hx9
                have HG9 := Lib.hid (grownBy_trans HGZ.out (grown_of_below (r := some V0.heap.size) hb9))
                clear hb9 hx9
                go_wp2
                go_roundw
                case rel => exact ⟨j + 1, by omega, by go_num, by rw [HG2.out]; simpa [Int.add_assoc] using heap_setCell_same w9 _ 1 _ _ (.int .i64 (I0 + S + G + c)) HX9.out, grownBy_trans HG9.out (grownBy_setCell _ _ _ _)⟩
                case measure => simp [intOf]; omega
              · have HG2 := Lib.hid (show sumF (dayG c y) (D.take (j + 1)) = G by rw [HG.out, if_neg hyy]; omega)
                have hq1 : (Y == y) = false := by simpa using hyy
                clear HG
                go_wp2
                go_roundw
                case rel => exact ⟨j + 1, by omega, by go_num, by rw [HG2.out]; exact HXZ.out, HGZ.out⟩
                case measure => simp [intOf]; omega
            · obtain rfl : j = nd := by omega
              have htk : D.take j = D := List.take_of_length_le (Nat.le_of_eq HLD.out)
              rw [htk] at HXZ hgb hxz
              obtain ⟨G, hGG⟩ : ∃ z, sumF (dayG c y) D = z := ⟨_, rfl⟩
              have hCC := HCC.out
              rw [hGG] at hCC HXZ hgb hxz
              have HCC2 := Lib.hid hCC
              have hqq := quo_360 (ma := ma) (by omega) (by omega)
              have hyq : 0 ≤ yrOf ma ∧ yrOf ma ≤ 100 := by rw [← hqq, Int.tdiv_eq_ediv_of_nonneg (by omega)]; omega
              have hTT := HTT.out
              obtain ⟨Y, hY⟩ : ∃ z, yrOf ma = z := ⟨_, rfl⟩
              rw [hY] at hqq hyq hTT
              have HTT2 := Lib.hid hTT
              have hwq : wrap64 (ma.tdiv 360) = Y := by rw [hqq]; exact IntWalk.wrap64_in _ (by omega)
              have hwq' : IntKind.i64.wrap (ma.tdiv 360) = Y := (IntWalk.i64_left _).trans hwq
              have HBZ := Lib.hid (show Below V0.heap.size V0 wz from (bup HBX.out HB8.out).trans (below_of_grown HGZ.out (Nat.le_refl _) (by omega)))
              clear hCC hTT hY hGG htk hxz hgz hhz hsz HCC HTT b0 b1 b2 b3
              have b3 := cell_heap (i := 3) HXZ.out rfl
              by_cases hyy : y < Y
              · have hT3 := HTT2.out
                rw [if_pos hyy] at hT3
                have HT3 := Lib.hid hT3
                clear hT3
                go_wp2
                go_roundw
                case rel => exact ⟨i + 1, by omega, by go_num, by rw [HCC2.out, HT3.out]; simpa [Int.add_assoc] using heap_setCell_same wz _ 3 _ _ (.int .i64 (T1 + xa)) HXZ.out, HBZ.out.setCell (p := ⟨_, 3, none⟩) (by simp) _⟩
                case measure => simp [intOf]; omega
              · have hT3 := HTT2.out
                rw [if_neg hyy, Int.add_zero] at hT3
                have HT3 := Lib.hid hT3
                clear hT3
                go_wp2
                go_roundw
                case rel => exact ⟨i + 1, by omega, by go_num, by rw [HCC2.out, HT3.out]; simpa [Int.add_assoc] using HXZ.out, HBZ.out⟩
                case measure => simp [intOf]; omega
        · obtain rfl : i = n1 := by omega
          have htk : R.hs.take i = R.hs := List.take_of_length_le (Nat.le_of_eq HL1.out)
          rw [htk, HC2.out, HT2.out] at hxx
          clear HXX
          have HXX := Lib.hid hxx
          have b0 := cell_heap (i := 0) hxx rfl
          have b1 := cell_heap (i := 1) hxx rfl
          have b2 := cell_heap (i := 2) hxx rfl
          have b3 := cell_heap (i := 3) hxx rfl
          have e2 := frozen_of_row wx _ 2 _ _ hxx
          clear hxx hbx htk hcp hlp
          have hw6 : IntKind.i64.wrap (rz + F) = F + rz := (IntWalk.i64_in _ (by omega)).trans (by omega)
          go_upto_region 29 with fail
          go_cut [] (fun wy => wy.heap[V0.heap.size]? = some (.cells #[.int .i64 (y), .int .i64 (I0 + C), .int .i64 (F + rz), .int .i64 (T)] 140 (0, 0)) ∧ Below V0.heap.size V0 wy)
          case first =>
            go_region_with (go_at_call 111; refine (KF.out _ ?_).mono ?_; (· first | exact bup HBr.out HBX.out | exact bup HBr.out (bdr HBX.out)); rintro e wn ⟨rfl, hbn⟩; have HBN := Lib.hid (show Below V0.heap.size V0 wn by first | exact bup HBX.out hbn | exact bup (bdr HBX.out) hbn); have hx := (show wn.heap[V0.heap.size]? = some (.cells #[.int .i64 (y), .int .i64 (I0 + C), .int .i64 (rz), .int .i64 (T)] 140 (0, 0)) by first | exact keep_box hbn HXX.out | exact keep_box (w := wx.drew) hbn HXX.out); have g2 := cell_heap (i := 2) hx rfl; have gf2 := frozen_of_row wn _ 2 _ _ hx; have u0 := keepB HBN.out r0; have u1 := keepB HBN.out r1; have u2 := keepB HBN.out r2; have HX2 := Lib.hid hx; clear hx hbn)
            all_goals (go_wp2_with fail; go_meet)
            all_goals (try simp only [hw6])
            all_goals exact ⟨heap_setCell_same _ _ 2 _ _ (.int .i64 (F + rz)) HX2.out, HBN.out.setCell (p := ⟨_, 2, none⟩) (by simp) _⟩
          case rest =>
            obtain ⟨hxc, hbc⟩ := hcut
            clear b0 b1 b2 b3 e2 HXX HBX
            have b0 := cell_heap (i := 0) hxc rfl
            have b1 := cell_heap (i := 1) hxc rfl
            have b2 := cell_heap (i := 2) hxc rfl
            have b3 := cell_heap (i := 3) hxc rfl
            have e3 := frozen_of_row wc _ 3 _ _ hxc
            have zcB : V0.heap.size < wc.heap.size := (Array.getElem?_eq_some_iff.1 hxc).1
            have HXC := Lib.hid hxc
            have HBC := Lib.hid hbc
            have hw7 : IntKind.i64.wrap (T + (F + rz)) = T + (F + rz) := IntWalk.i64_in _ (by omega)
            clear hxc hbc r0 r1 r2 r0B r1B r2B
            go_upto_region 32 with fail
            try simp only [hw7]
            have hxd := heap_setCell_same wc _ 3 _ _ (.int .i64 (T + (F + rz))) HXC.out
            have hbd := HBC.out.setCell (p := ⟨V0.heap.size, 3, none⟩) (by simp) (.int .i64 (T + (F + rz)))
            have hzd : (wc.setCell ⟨V0.heap.size, 3, none⟩ (.int .i64 (T + (F + rz)))).heap.size = wc.heap.size := by simp [World.setCell]
            generalize wc.setCell ⟨V0.heap.size, 3, none⟩ (.int .i64 (T + (F + rz))) = Wd at hxd hbd hzd ⊢
            clear b0 b1 b2 b3 e3
            have b0 := cell_heap (i := 0) hxd rfl
            have b1 := cell_heap (i := 1) hxd rfl
            have b2 := cell_heap (i := 2) hxd rfl
            have b3 := cell_heap (i := 3) hxd rfl
            have zdB : V0.heap.size < Wd.heap.size := (Array.getElem?_eq_some_iff.1 hxd).1
            have hO := ownsRow_belowZ HO.out hbd
            have HXD := Lib.hid hxd
            have HBN := Lib.hid (bup HBR.out hbd)
            have hzn := HBN.out.size
            have HO2 := Lib.hid hO
            have HT1 := Lib.hid (show inB (I0 + C) (-1000000000000000) 1000000000000000 = true from inB_iff.2 (by omega))
            have HT2 := Lib.hid (show inB (F + rz) (-1000000000000000) 1000000000000000 = true from inB_iff.2 (by omega))
            have HT3 := Lib.hid (show inB (T + (F + rz)) (-1000000000000000) 1000000000000000 = true from inB_iff.2 (by omega))
            have HSN := Lib.hid (show flatE encSvc ((List.range (k + 1)).map (prjS R y0 L)) = flatE encSvc ((List.range k).map (prjS R y0 L)) ++ encSvc ⟨y, I0 + C, F + rz, T + (F + rz)⟩ by rw [svc_snoc, flatE_snoc, HPS.out, Int.add_comm C I0])
            obtain ⟨M, hM⟩ : ∃ M, flatE encSvc ((List.range k).map (prjS R y0 L)) = M := ⟨_, rfl⟩
            rw [hM] at hO HSN
            have HOM := Lib.hid hO
            clear hxd hbd hM hO hzd
            go_wp2_with (first | (go_at_call 112; refine (r01total_any _ _).mono ?_; (first | rw [HT1.out] | rw [HT2.out] | rw [HT3.out]); rintro e w' ⟨rfl, rfl⟩) | (at_builtin; go_must (refine wpList_append_own _ rfl _ _ 81 rfl w1.heap.size 140 i1 (.agg #[.int .i64 0, .int .i64 0, .int .i64 0, .int .i64 0]) 4 32 Try.underlying81 hi hz0 hz1 hz2 rfl (by decide) _ k M rfl (HOM.out.alloc _) ⟨Wd.heap.size, 0, none⟩ 1 1 (encSvc ⟨y, I0 + C, F + rz, T + (F + rz)⟩) rfl rfl (newsL _ _ _) (oneSvc _) (by unfold maxLen; omega) (by omega) (by simp; omega) ?_); intro v5 w5 hown5 hg5 _; have hX5 := (hg5.block V0.heap.size (by simp; omega) (fun e => by have := (HO.out.lt V0.heap.size e.symm).2; omega)).trans ((Below.heap_alloc _ _ _ zdB).trans HXD.out); have hc5 := cell_heap (i := 2) hX5 rfl; have HB5 := Lib.hid ((bal HBN.out _).grown hg5 (by simp; omega) (fun q hq => (HO2.out.lt q hq).1)); have HOW := Lib.hid hown5; clear hX5 hg5 hown5))
            go_roundw
            case rel => exact ⟨k + 1, by omega, by go_num, by rw [hrs.out], by rw [hor.out], by rw [HSN.out]; exact HOW.out, HB5.out⟩
            case measure => simp [intOf]; omega
    · obtain rfl : k = n3 := by omega
      have HO2 := Lib.hid (ownsRow_baseZ HO.out (b' := w.heap.size) (by omega))
      obtain ⟨fo, fc, rfl⟩ := own_slice0 hown
      have HEND := Lib.hid (show prL R y0 L = (List.range k).map (prjS R y0 L) by rw [HLL.out, HL3.out])
      clear hown hbr
      go_wp2
      go_ret2
      exact ⟨.slice fo k fc, by rw [HE'.out]; rfl, by rw [HEND.out]; simpa using HO2.out, HBr.out⟩
end Go.Proofs.Ytpoidaenkjjdfaa
namespace Go.Proofs.Ytpoidaenkjjdfaa
open Go.RowKit
set_option linter.unusedVariables false
set_option linter.unusedSimpArgs false
set_option maxHeartbeats 4000000 in
set_option maxRecDepth 100000 in
theorem fcost_any (P P2 : Nat → Prop) (vs vh vm v : Value) (R : Reg) (y0 b : Int) (L : List Int) (w : World) (hr : RgIn P w vs vh vm R) (hS : R.secs.length ≤ 1000000) (hH : R.hs.length ≤ 1000000) (hM : R.ms.length ≤ 1000000)
    (hv : Sl 1 encI P2 w v L) (hv1 : L.length ≤ 1000000) :
    Calls Try.prog 57 #[.agg #[vs, vh, vm], .int .i64 y0, v, .int .i64 b] w fun e w' => e = .returned (.tuple #[.int .i64 (csV R y0 L b), .int .i64 (csE R y0 L b)]) ∧ Below w.heap.size w w' := by
  obtain ⟨a0, n0, c0, rfl, -, -, -⟩ := hr.S.shape
  obtain ⟨a1, n1, c1, rfl, -, -, -⟩ := hr.H.shape
  obtain ⟨a2, n2, c2, rfl, -, -, -⟩ := hr.M.shape
  obtain ⟨a3, n3, c3, rfl, hl3, hnc3, hcm3⟩ := hv.shape
  have HR := Lib.hid hr
  have HV := Lib.hid hv
  have hn3 : n3 ≤ 1000000 := by omega
  have HP1 := Lib.hid (fun W (hW : Below w.heap.size w W) => fproject_any P P2 _ _ _ _ R y0 L W (hr.below (w' := W) hW) hS hH hM (hv.below hW) hv1)
  have HSH := Lib.hid (fun W (hW : Below w.heap.size w W) => fshifted_any P2 _ L b W (hv.below hW) hv1)
  have HP2 := Lib.hid (fun W (hW : Below w.heap.size w W) v2 (P3 : Nat → Prop) (h3 : Sl 1 encI P3 W v2 (shL b L)) => fproject_any P P3 _ _ _ v2 R y0 (shL b L) W (hr.below (w' := W) hW) hS hH hM h3 (by rw [shL_len]; exact hv1))
  have hz : csE R y0 L b ≠ 0 → csV R y0 L b = 0 := fun h => by unfold csV; rw [if_neg h]
  have HZ := Lib.hid hz
  clear hr hv hz
  by_cases h0 : prE R y0 L = 0
  rotate_left
  · obtain ⟨E, hE⟩ : ∃ E, prE R y0 L = E := ⟨_, rfl⟩
    rw [hE] at h0 HP1
    have hE1 : (E != 0) = true := by simpa using h0
    have hE2 : (E == 0) = false := by simpa using h0
    have HE := Lib.hid (show csE R y0 L b = E by unfold csE; rw [hE, if_neg h0])
    have HN := Lib.hid (HZ.out (by rw [HE.out]; exact h0))
    clear hE
    go_enter Try.func57, Try.ntmps57
    go_wp2_with fail
    refine (HP1.out _ (bal brefl _)).mono ?_
    rintro e w1 ⟨v1, rfl, hown, hb1⟩
    obtain ⟨f1, k1, rfl⟩ := own_slice0 hown
    have HB1 := Lib.hid (bup (bal brefl _) hb1)
    clear hb1 hown
    go_wp2
    go_ret2
    exact ⟨by rw [HN.out, HE.out]; rfl, HB1.out⟩
  rw [h0] at HP1
  have h00 := h0
  have H0 := Lib.hid h0
  obtain ⟨hok, hpb, hy0, hy1⟩ := prE_zero h00
  clear h0 h00
  cases hbb : inB b (-20000) 20000
  · have HE := Lib.hid (show csE R y0 L b = 2 by unfold csE; rw [H0.out, hbb]; rfl)
    have HN := Lib.hid (HZ.out (by rw [HE.out]; decide))
    have hx : b < -20000 ∨ 20000 < b := by
      rcases Int.lt_or_le b (-20000) with h | h
      · exact .inl h
      · right
        rcases Int.lt_or_le 20000 b with h' | h'
        · exact h'
        · rw [inB_iff.2 ⟨h, h'⟩] at hbb; cases hbb
    clear hbb
    by_cases hx0 : b < -20000
    · go_enter Try.func57, Try.ntmps57
      go_wp2_with fail
      refine (HP1.out _ (bal brefl _)).mono ?_
      rintro e w1 ⟨v1, rfl, hown, hb1⟩
      obtain ⟨f1, k1, rfl⟩ := own_slice0 hown
      have HB1 := Lib.hid (bup (bal brefl _) hb1)
      clear hb1 hown
      go_wp2
      go_ret2
      exact ⟨by rw [HN.out, HE.out]; rfl, HB1.out⟩
    · have hx1 : 20000 < b := by omega
      go_enter Try.func57, Try.ntmps57
      go_wp2_with fail
      refine (HP1.out _ (bal brefl _)).mono ?_
      rintro e w1 ⟨v1, rfl, hown, hb1⟩
      obtain ⟨f1, k1, rfl⟩ := own_slice0 hown
      have HB1 := Lib.hid (bup (bal brefl _) hb1)
      clear hb1 hown
      go_wp2
      go_ret2
      exact ⟨by rw [HN.out, HE.out]; rfl, HB1.out⟩
  have hbi := inB_iff.1 hbb
  have hx0 : ¬ b < -20000 := by omega
  have hx1 : ¬ 20000 < b := by omega
  have HE := Lib.hid (show csE R y0 L b = 0 by unfold csE; rw [H0.out, hbb]; rfl)
  have HN := Lib.hid (show csV R y0 L b = sumF (csD R y0 L b) (List.range n3) by unfold csV; rw [HE.out, if_pos rfl, hl3])
  have HE2 := Lib.hid (prE_sh H0.out b)
  have HLA := Lib.hid (show (prL R y0 L).length = n3 by unfold prL; rw [if_pos H0.out]; simp [hl3])
  have HLB := Lib.hid (show (prL R y0 (shL b L)).length = n3 by unfold prL; rw [if_pos HE2.out]; simp [shL_len, hl3])
  have hn60 : n3 ≤ 60 := by have := (pathB_len hpb).2; omega
  have HOK := Lib.hid hok
  have HPB := Lib.hid hpb
  clear hbb hok hpb
  go_enter Try.func57, Try.ntmps57
  go_wp2_with fail
  refine (HP1.out _ (bal brefl _)).mono ?_
  rintro e w1 ⟨v1, rfl, hown, hb1⟩
  rw [HLA.out] at hown
  obtain ⟨f1, k1, rfl⟩ := own_slice0 hown
  have r0 := (show w1.cell? ⟨w.heap.size, 0, none⟩ = some (.slice a0 n0 c0) from boxed_cell hb1 0 rfl)
  have r1 := (show w1.cell? ⟨w.heap.size, 1, none⟩ = some (.slice a1 n1 c1) from boxed_cell hb1 1 rfl)
  have r2 := (show w1.cell? ⟨w.heap.size, 2, none⟩ = some (.slice a2 n2 c2) from boxed_cell hb1 2 rfl)
  have HB1 := Lib.hid (bup (bal brefl _) hb1)
  have HO1 := Lib.hid (Sl.own (P := fun _ => True) encSvc_len hown HLA.out (fun _ _ => trivial))
  clear hown hb1
  go_upto_region 6 with fail
  go_cut [11, 12] (fun ev v2 wx => ∃ fo fc, v2 = .slice fo n3 fc ∧ ev = .int .i64 0 ∧ Sl 4 encSvc (fun _ => True) wx v2 (prL R y0 (shL b L)) ∧ Below w1.heap.size w1 wx)
  case first =>
    go_region_with (first
      | (go_at_call 53; refine (HSH.out _ ?_).mono ?_; (· first | exact HB1.out | exact bdr HB1.out); rintro e w3 ⟨v3, rfl, hown3, hb3⟩; have HX3 := Lib.hid (show Below w1.heap.size w1 w3 by first | exact hb3 | exact bup (bdr brefl) hb3); have HO3 := Lib.hid (Sl.own (P := fun _ => True) encI_len hown3 rfl (fun _ _ => trivial)); obtain ⟨f3, k3, rfl⟩ := own_slice0 hown3; have s0 := keepB HX3.out r0; have s1 := keepB HX3.out r1; have s2 := keepB HX3.out r2; clear hown3 hb3)
      | (go_at_call 55; refine (HP2.out _ ?_ _ _ HO3.out).mono ?_; (· exact bup HB1.out HX3.out); rw [HE2.out]; rintro e w4 ⟨v4, rfl, hown4, hb4⟩; have HX4 := Lib.hid (bup HX3.out hb4); rw [HLB.out] at hown4; have HO4 := Lib.hid (Sl.own (P := fun _ => True) encSvc_len hown4 HLB.out (fun _ _ => trivial)); obtain ⟨f4, k4, rfl⟩ := own_slice0 hown4; clear hown4 hb4))
    all_goals (go_wp2_with fail; go_meet)
    all_goals exact ⟨_, _, rfl, rfl, HO4.out, HX4.out⟩
  case rest =>
    obtain ⟨f2, k2, rfl, rfl, hO2, hBX⟩ := hcut
    have HO2 := Lib.hid hO2
    have HBX := Lib.hid (bup HB1.out hBX)
    have HO1' := Lib.hid (HO1.out.below hBX)
    clear hO2 hBX HP1 HP2 HSH r0 r1 r2
    go_wp2_with fail
    generalize hW : wc = W at *
    go_loopw [13, 45] (fun sv iv wr => ∃ k : Nat, k ≤ n3 ∧ iv = .int .i64 k ∧ sv = .int .i64 (sumF (csD R y0 L b) (List.range k)) ∧ Below W.heap.size W wr) (fun _ iv _ => n3 - (intOf iv).toNat)
    case atStart => exact ⟨0, by omega, rfl, rfl, brefl⟩
    case round =>
      obtain ⟨k, hk, rfl, rfl, hbr⟩ := hrel
      have hsb := csS_bd HOK.out HPB.out (y0 := y0) b (k := k) (by omega)
      by_cases hlt : k < n3
      · obtain ⟨bA, oA, yA, iA, pA, dA, rfl, -, hblA, hxA, xA0, xA1, xA2, xA3⟩ := (HO1'.out.below hbr).svc hlt
        obtain ⟨bB, oB, yB, iB, pB, dB, rfl, -, hblB, hxB, xB0, xB1, xB2, xB3⟩ := (HO2.out.below hbr).svc hlt
        have eA : iA = prjI R y0 L k := congrArg Svc.i (prL_at H0.out hxA)
        have eB : iB = prjI R y0 (shL b L) k := congrArg Svc.i (prL_at HE2.out hxB)
        have bdA := prjI_bd HOK.out (y0 := y0) HPB.out k
        have bdB := prjI_bd HOK.out (y0 := y0) (pathB_sh HPB.out b) k
        rw [← eA] at bdA
        rw [← eB] at bdB
        have HSS := Lib.hid (show sumF (csD R y0 L b) (List.range (k + 1)) = sumF (csD R y0 L b) (List.range k) + (iB - iA) by rw [csS_succ, eA, eB]; rfl)
        obtain ⟨T, hT⟩ : ∃ T, sumF (csD R y0 L b) (List.range k) = T := ⟨_, rfl⟩
        rw [hT] at hsb HSS ⊢
        clear eA eB hxA hxB hT
        go_wp2
        go_quiet (fail)
        go_wp2
        go_roundw
        case rel => exact ⟨k + 1, by omega, by go_num, by rw [HSS.out], ⟨hbr.os, hbr.tape, hbr.output, hbr.size, hbr.block⟩⟩
        case measure => simp [intOf]; omega
      · obtain rfl : k = n3 := by omega
        have HBR := Lib.hid (bup HBX.out hbr)
        have HT1 := Lib.hid (show inB (sumF (csD R y0 L b) (List.range k)) (-1000000000000000) 1000000000000000 = true from inB_iff.2 (by omega))
        clear hbr
        go_wp2_with (go_at_call 112; refine (r01total_any _ _).mono ?_; rw [HT1.out]; rintro e w' ⟨rfl, rfl⟩)
        go_ret2
        exact ⟨by rw [HN.out, HE.out]; rfl, HBR.out⟩
end Go.Proofs.Ytpoidaenkjjdfaa
