/- treasury/risk's Shifted. treasury/risk's Falls. slices.Max, slices.Index at numbers. -/
import Derived.Test.YtpoidaenkjjdfaaZRgP
import Derived.Lib.MinMax
import Derived.Test.YtpoidaenkjjdfaaZRgR
import Derived.Test.YtpoidaenkjjdfaaZRgL
namespace Go.Proofs.Ytpoidaenkjjdfaa
open Go.RowKit
set_option linter.unusedVariables false
set_option linter.unusedSimpArgs false
def byC (b : Int) : Int := max (min b 20000) (-20000)
def shR (b x : Int) : Int := if inB x 0 20000 then max (min (x + byC b) 20000) 0 else x
def shL (b : Int) (L : List Int) : List Int := L.map (shR b)
def IntsW (L : List Int) (w : World) (e : Ending) (w' : World) : Prop := ∃ v, e = .returned v ∧ w'.ownsRow w.heap.size 3 1 v L.length (flatE encI L) ∧ Below w.heap.size w w'
theorem shR_snoc {b : Int} {L : List Int} {k : Nat} {x : Int} (h : L[k]? = some x) : (L.take (k + 1)).map (shR b) = (L.take k).map (shR b) ++ [shR b x] := by rw [take_snocZ h, List.map_append]; rfl
theorem shL_take {b : Int} {L : List Int} {n : Nat} (h : L.length = n) : (L.take n).map (shR b) = shL b L := by rw [List.take_of_length_le (Nat.le_of_eq h)]; rfl
theorem shL_len (b : Int) (L : List Int) : (shL b L).length = L.length := by simp [shL]
set_option maxHeartbeats 2000000 in
set_option maxRecDepth 100000 in
theorem shifted_any (P : Nat → Prop) (v : Value) (L : List Int) (b : Int) (w : World) (h : Sl 1 encI P w v L) (hn : L.length ≤ 1000000) :
    Calls Try.prog 52 #[v, .int .i64 b] w (IntsW (shL b L) w) := by
  obtain ⟨ao, n, c, rfl, hl, hnc, hcm⟩ := h.shape
  have H := Lib.hid h
  have HL := Lib.hid hl
  have hn1 : n ≤ 1000000 := by omega
  obtain ⟨i1, hi, hz0, hz1, hz2⟩ := info_parts infoInt
  clear h hl hn
  go_enter Try.func52, Try.ntmps52
  go_wp2
  obtain ⟨q, hq⟩ : ∃ q, byC b = q := ⟨_, rfl⟩
  have hq1 : -20000 ≤ q ∧ q ≤ 20000 := by rw [← hq]; unfold byC; omega
  rw [show max (min b 20000) (-20000) = q from hq]
  have HQ := Lib.hid hq
  clear hq
  go_loopw [5, 13] (fun v iv wr => ∃ k : Nat, k ≤ n ∧ iv = .int .i64 k ∧ wr.ownsRow w.heap.size 3 1 v k (flatE encI ((L.take k).map (shR b))) ∧ Below w.heap.size w wr) (fun _ iv _ => n - (intOf iv).toNat)
  case atStart => exact ⟨0, by omega, rfl, World.ownsRow_nil _ _ _ _, brefl⟩
  case round =>
    obtain ⟨k, hk, rfl, hown, hbr⟩ := hrel
    have HO := Lib.hid hown
    have HBR := Lib.hid hbr
    have zr := hbr.size
    obtain ⟨fo, fc, rfl⟩ := own_slice0 hown
    by_cases hlt : k < n
    · obtain ⟨b0, off, x, rfl, -, hbl, hxk, hck⟩ := (H.out.below hbr).int hlt
      have HSN := Lib.hid (shR_snoc (b := b) hxk)
      obtain ⟨M, hM⟩ : ∃ M, flatE encI ((L.take k).map (shR b)) = M := ⟨_, rfl⟩
      have hO := HO.out
      rw [hM] at hO
      have HO2 := Lib.hid hO
      have HM := Lib.hid hM
      clear hown hxk hM hO
      cases hp : inB x 0 20000
      · have HSX := Lib.hid (show shR b x = x by unfold shR; rw [hp]; rfl)
        go_wp2_with (first | (go_at_call 104; refine (rate_any _ _).mono ?_; rw [hp]; rintro e w' ⟨rfl, rfl⟩) | (at_builtin; go_must (refine wpList_append_own _ rfl _ _ 22 rfl w.heap.size 3 i1 (.int .i64 0) 1 8 Try.underlying22 hi hz0 hz1 hz2 rfl (by decide) _ k M rfl (HO2.out.alloc _) ⟨wr.heap.size, 0, none⟩ 1 1 (encI x) rfl rfl (newsL _ _ _) (one1 _ _) (by unfold maxLen; omega) (by omega) (by simp; omega) ?_); intro v5 w5 hown5 hg5 _; have HB5 := Lib.hid (show Below w.heap.size w w5 from (bal HBR.out _).grown hg5 (by simp; omega) (fun q hq => (HO2.out.lt q hq).1)); have HOW := Lib.hid hown5; clear hg5 hown5))
        go_roundw
        case rel => exact ⟨k + 1, by omega, by go_num, by rw [HSN.out, flatE_snoc, HM.out, HSX.out]; exact HOW.out, HB5.out⟩
        case measure => simp [intOf]; omega
      · have hx := inB_iff.1 hp
        have hw : IntKind.i64.wrap (x + q) = x + q := IntWalk.i64_in _ (by omega)
        have HSX := Lib.hid (show shR b x = max (min (x + q) 20000) 0 by unfold shR; rw [hp, HQ.out]; rfl)
        go_upto_region 8 with (go_at_call 104; refine (rate_any _ _).mono ?_; rw [hp]; rintro e w' ⟨rfl, rfl⟩)
        try rw [hw]
        obtain ⟨u, hu⟩ : ∃ u, max (min (x + q) 20000) 0 = u := ⟨_, rfl⟩
        rw [hu] at HSX ⊢
        clear hu
        go_wp2_with (at_builtin; go_must (refine wpList_append_own _ rfl _ _ 22 rfl w.heap.size 3 i1 (.int .i64 0) 1 8 Try.underlying22 hi hz0 hz1 hz2 rfl (by decide) _ k M rfl (HO2.out.alloc _) ⟨wr.heap.size, 0, none⟩ 1 1 (encI u) rfl rfl (newsL _ _ _) (one1 _ _) (by unfold maxLen; omega) (by omega) (by simp; omega) ?_); intro v5 w5 hown5 hg5 _; have HB5 := Lib.hid (show Below w.heap.size w w5 from (bal HBR.out _).grown hg5 (by simp; omega) (fun q hq => (HO2.out.lt q hq).1)); have HOW := Lib.hid hown5; clear hg5 hown5)
        go_roundw
        case rel => exact ⟨k + 1, by omega, by go_num, by rw [HSN.out, flatE_snoc, HM.out, HSX.out]; exact HOW.out, HB5.out⟩
        case measure => simp [intOf]; omega
    · obtain rfl : k = n := by omega
      clear hown
      go_wp2
      go_ret
      exact ⟨_, rfl, by rw [shL_len, HL.out, ← shL_take HL.out]; exact HO.out, hbr⟩
end Go.Proofs.Ytpoidaenkjjdfaa
namespace Go.Proofs.Ytpoidaenkjjdfaa
open Go.RowKit
set_option linter.unusedVariables false
set_option linter.unusedSimpArgs false
def fsE (R : Reg) (y0 n : Int) : Int := if chkE R = 0 then (if inB y0 0 100 then (if inB n 1 60 then 0 else 2) else 2) else chkE R
def fsF (R : Reg) (y0 : Int) (k : Nat) : Int := sumF (fallF R (y0 + k)) R.hs
def fsL (R : Reg) (y0 n : Int) : List Int := if fsE R y0 n = 0 then (List.range n.toNat).map (fsF R y0) else []
def IntsEW (L : List Int) (E : Int) (w : World) (e : Ending) (w' : World) : Prop := ∃ v, e = .returned (.tuple #[v, .int .i64 E]) ∧ w'.ownsRow w.heap.size 3 1 v L.length (flatE encI L) ∧ Below w.heap.size w w'
theorem intsEW_nil {L : List Int} {E k : Int} {w w' : World} (hL : L = []) (hE : E = k) (hb : Below w.heap.size w w') : IntsEW L E w (.returned (.tuple #[.slice none 0 0, .int .i64 k])) w' := by
  subst hL hE; exact ⟨_, rfl, World.ownsRow_nil _ _ _ _, hb⟩
theorem fs_snoc (f : Nat → Int) (k : Nat) : (List.range (k + 1)).map f = (List.range k).map f ++ [f k] := by simp [List.range_succ]
set_option maxHeartbeats 4000000 in
set_option maxRecDepth 100000 in
theorem falls_any (P : Nat → Prop) (vs vh vm : Value) (R : Reg) (y0 n : Int) (w : World) (hr : RgIn P w vs vh vm R) (hS : R.secs.length ≤ 1000000) (hH : R.hs.length ≤ 1000000) (hM : R.ms.length ≤ 1000000) :
    Calls Try.prog 59 #[.agg #[vs, vh, vm], .int .i64 y0, .int .i64 n] w (IntsEW (fsL R y0 n) (fsE R y0 n) w) := by
  obtain ⟨a0, n0, c0, rfl, -, -, -⟩ := hr.S.shape
  obtain ⟨a1, n1, c1, rfl, -, -, -⟩ := hr.H.shape
  obtain ⟨a2, n2, c2, rfl, -, -, -⟩ := hr.M.shape
  have HR := Lib.hid hr
  have HC := Lib.hid (fun W (hW : Below w.heap.size w W) => check_any P _ _ _ R W (hr.below (w' := W) hW) hS hH hM)
  obtain ⟨E0, hE0⟩ : ∃ E, chkE R = E := ⟨_, rfl⟩
  obtain ⟨yb, hyb⟩ : ∃ b, inB y0 0 100 = b := ⟨_, rfl⟩
  obtain ⟨nb, hnb⟩ : ∃ b, inB n 1 60 = b := ⟨_, rfl⟩
  have hpe : fsE R y0 n = if E0 = 0 then (if yb then (if nb then 0 else 2) else 2) else E0 := by unfold fsE; rw [hE0, hyb, hnb]
  rw [hE0] at HC
  have HYB := Lib.hid (fun (W : World) => amongK_any y0 0 100 W)
  rw [hyb] at HYB
  have HNB := Lib.hid (fun (W : World) => amongK_any n 1 60 W)
  rw [hnb] at HNB
  have hnil : fsE R y0 n ≠ 0 → fsL R y0 n = [] := fun h => by unfold fsL; rw [if_neg h]
  have HPE := Lib.hid hpe
  have HNIL := Lib.hid hnil
  have HE0 := Lib.hid hE0
  have HYI := Lib.hid hyb
  have HNI := Lib.hid hnb
  clear hr hE0 hyb hnb hpe hnil
  by_cases h0 : E0 = 0
  rotate_left
  · have hE1 : (E0 != 0) = true := by simpa using h0
    have hE2 : (E0 == 0) = false := by simpa using h0
    have HE : fsE R y0 n = E0 := by rw [HPE.out, if_neg h0]
    have HN := Lib.hid (HNIL.out (by rw [HE]; exact h0))
    have HE' := Lib.hid HE
    clear HE
    go_enter Try.func59, Try.ntmps59
    go_wp2_with fail
    refine (HC.out _ (bal brefl _)).mono ?_
    rintro e w1 ⟨rfl, hb1⟩
    have HB1 := Lib.hid (bup (bal brefl _) hb1)
    clear hb1
    go_wp2
    go_ret2
    exact intsEW_nil HN.out HE'.out HB1.out
  subst h0
  cases yb
  · have HE : fsE R y0 n = 2 := by rw [HPE.out]; simp
    have HN := Lib.hid (HNIL.out (by rw [HE]; decide))
    have HE' := Lib.hid HE
    clear HE
    go_enter Try.func59, Try.ntmps59
    go_wp2_with fail
    refine (HC.out _ (bal brefl _)).mono ?_
    rintro e w1 ⟨rfl, hb1⟩
    have HB1 := Lib.hid (bup (bal brefl _) hb1)
    clear hb1
    go_wp2_with fail
    refine (HYB.out _).mono ?_
    rintro e w3 ⟨rfl, rfl⟩
    go_wp2
    go_ret2
    exact intsEW_nil HN.out HE'.out HB1.out
  cases nb
  · have HE : fsE R y0 n = 2 := by rw [HPE.out]; simp
    have HN := Lib.hid (HNIL.out (by rw [HE]; decide))
    have HE' := Lib.hid HE
    clear HE
    go_enter Try.func59, Try.ntmps59
    go_wp2_with fail
    refine (HC.out _ (bal brefl _)).mono ?_
    rintro e w1 ⟨rfl, hb1⟩
    have HB1 := Lib.hid (bup (bal brefl _) hb1)
    clear hb1
    go_wp2_with fail
    refine (HYB.out _).mono ?_
    rintro e w3 ⟨rfl, rfl⟩
    go_wp2_with fail
    refine (HNB.out _).mono ?_
    rintro e w3 ⟨rfl, rfl⟩
    go_wp2
    go_ret2
    exact intsEW_nil HN.out HE'.out HB1.out
  have HE : fsE R y0 n = 0 := by rw [HPE.out]; simp
  have hLL : fsL R y0 n = (List.range n.toNat).map (fsF R y0) := by unfold fsL; rw [if_pos HE]
  have HLL := Lib.hid hLL
  have HE' := Lib.hid HE
  have HOK := Lib.hid (chkE_iff.1 HE0.out)
  have hy := inB_iff.1 HYI.out
  have hn := inB_iff.1 HNI.out
  obtain ⟨m, rfl⟩ : ∃ m : Nat, n = m := ⟨n.toNat, by omega⟩
  obtain ⟨i1, hi, hz0, hz1, hz2⟩ := info_parts infoInt
  have HFA := Lib.hid (fun W (hW : Below w.heap.size w W) y => rfalls_any P _ _ _ R y W (HR.out.below hW) hS HOK.out.rh)
  clear HE hLL HPE HNIL
  go_enter Try.func59, Try.ntmps59
  go_wp2_with fail
  refine (HC.out _ (bal brefl _)).mono ?_
  rintro e w1 ⟨rfl, hb1⟩
  have HR0 := Lib.hid (show w1.cell? ⟨w.heap.size, 0, none⟩ = some (.slice a0 n0 c0) from boxed_cell hb1 0 rfl)
  have HR1 := Lib.hid (show w1.cell? ⟨w.heap.size, 1, none⟩ = some (.slice a1 n1 c1) from boxed_cell hb1 1 rfl)
  have HR2 := Lib.hid (show w1.cell? ⟨w.heap.size, 2, none⟩ = some (.slice a2 n2 c2) from boxed_cell hb1 2 rfl)
  have HB1 := Lib.hid (bup (bal brefl _) hb1)
  have hz1' : w.heap.size < w1.heap.size := by have := hb1.size; simp at this; omega
  clear hb1
  go_wp2_with fail
  refine (HYB.out _).mono ?_
  rintro e w3 ⟨rfl, rfl⟩
  go_wp2_with fail
  refine (HNB.out _).mono ?_
  rintro e w3 ⟨rfl, rfl⟩
  go_wp2_with fail
  clear HC HYB HNB
  go_loopw [9, 25] (fun v iv wr => ∃ k : Nat, k ≤ m ∧ iv = .int .i64 k ∧ wr.ownsRow w1.heap.size 3 1 v k (flatE encI ((List.range k).map (fsF R y0))) ∧ Below w1.heap.size w1 wr) (fun _ iv _ => m - (intOf iv).toNat)
  case atStart => exact ⟨0, by omega, rfl, World.ownsRow_nil _ _ _ _, brefl⟩
  case round =>
    obtain ⟨k, hk, rfl, hown, hbr⟩ := hrel
    have HO := Lib.hid hown
    have HBR := Lib.hid hbr
    have HBr := Lib.hid (bup HB1.out hbr)
    have zr := hbr.size
    obtain ⟨fo, fc, rfl⟩ := own_slice0 hown
    by_cases hlt : k < m
    · have KF := Lib.hid (fun W hW => HFA.out W hW (y0 + k))
      have HSN := Lib.hid (show flatE encI ((List.range (k + 1)).map (fsF R y0)) = flatE encI ((List.range k).map (fsF R y0)) ++ encI (sumF (fallF R (y0 + k)) R.hs) by rw [fs_snoc, flatE_snoc]; rfl)
      obtain ⟨F, hF⟩ : ∃ z, sumF (fallF R (y0 + k)) R.hs = z := ⟨_, rfl⟩
      rw [hF] at KF HSN
      have r0 := keepB hbr HR0.out
      have r1 := keepB hbr HR1.out
      have r2 := keepB hbr HR2.out
      obtain ⟨M, hM⟩ : ∃ M, flatE encI ((List.range k).map (fsF R y0)) = M := ⟨_, rfl⟩
      have hO := HO.out
      rw [hM] at hO HSN
      have HO2 := Lib.hid hO
      have hw1 : IntKind.i64.wrap (y0 + k) = y0 + k := IntWalk.i64_in _ (by omega)
      clear hown hF hM hO
      go_wp2_with (first | (go_at_call 106; (try simp only [hw1]); refine (KF.out _ HBr.out).mono ?_; rintro e w4 ⟨rfl, hb4⟩; have z4 := hb4.size; have HO4 := Lib.hid (ownsRow_belowZ HO2.out hb4); have HB4 := Lib.hid (bup HBR.out hb4); clear hb4) | (at_builtin; go_must (refine wpList_append_own _ rfl _ _ 22 rfl w1.heap.size 3 i1 (.int .i64 0) 1 8 Try.underlying22 hi hz0 hz1 hz2 rfl (by decide) _ k M rfl (HO4.out.alloc _) ⟨w4.heap.size, 0, none⟩ 1 1 (encI F) rfl rfl (newsL _ _ _) (one1 _ _) (by unfold maxLen; omega) (by omega) (by simp; omega) ?_); intro v5 w5 hown5 hg5 _; have HB5 := Lib.hid (show Below w1.heap.size w1 w5 from (bal HB4.out _).grown hg5 (by simp; omega) (fun q hq => (HO4.out.lt q hq).1)); have HOW := Lib.hid hown5; clear hg5 hown5))
      go_roundw
      case rel => exact ⟨k + 1, by omega, by go_num, by rw [HSN.out]; exact HOW.out, HB5.out⟩
      case measure => simp [intOf]; omega
    · obtain rfl : k = m := by omega
      have HO2 := Lib.hid (ownsRow_baseZ HO.out (b' := w.heap.size) (by have := HB1.out.size; omega))
      have HEND := Lib.hid (show fsL R y0 k = (List.range k).map (fsF R y0) by rw [HLL.out]; rfl)
      clear hown hbr
      go_wp2
      go_ret2
      exact ⟨.slice fo k fc, by rw [HE'.out]; rfl, by rw [HEND.out]; simpa using HO2.out, HBr.out⟩
end Go.Proofs.Ytpoidaenkjjdfaa
namespace Go.Proofs.Ytpoidaenkjjdfaa
open Go.RowKit
set_option linter.unusedVariables false
set_option linter.unusedSimpArgs false
def mxL (L : List Int) : Int := L.foldl max ((L[0]?).getD 0)
theorem foldl_max_ge (a : Int) : ∀ (L : List Int), a ≤ L.foldl max a ∧ ∀ x ∈ L, x ≤ L.foldl max a := by
  intro L
  induction L generalizing a with
  | nil => simp
  | cons y L ih =>
    obtain ⟨h1, h2⟩ := ih (max a y)
    refine ⟨by simp only [List.foldl_cons]; omega, fun x hx => ?_⟩
    simp only [List.foldl_cons]
    rcases List.mem_cons.1 hx with rfl | hx
    · omega
    · exact h2 x hx
theorem foldl_max_mem (a : Int) : ∀ (L : List Int), L.foldl max a = a ∨ L.foldl max a ∈ L := by
  intro L
  induction L generalizing a with
  | nil => simp
  | cons y L ih =>
    simp only [List.foldl_cons]
    rcases ih (max a y) with h | h
    · rw [h]
      by_cases hc : a ≤ y
      · right; rw [show max a y = y by omega]; exact List.mem_cons_self ..
      · left; omega
    · right; exact List.mem_cons_of_mem _ h
theorem mxL_ge {L : List Int} : ∀ x ∈ L, x ≤ mxL L := (foldl_max_ge _ L).2
theorem mxL_mem {L : List Int} (h : 1 ≤ L.length) : mxL L ∈ L := by
  unfold mxL
  cases L with
  | nil => simp at h
  | cons y L =>
    rcases foldl_max_mem ((y :: L)[0]?.getD 0) (y :: L) with h | h
    · rw [h]; simp
    · exact h
theorem mx_snoc {a : Int} {L : List Int} {k : Nat} {x : Int} (h : L[k]? = some x) : (L.take (k + 1)).foldl max a = max ((L.take k).foldl max a) x := by
  rw [take_snocZ h, List.foldl_append]; rfl
def ixL (L : List Int) (m : Int) : Nat := L.findIdx (fun x => x == m)
theorem ixL_at {L : List Int} {m : Int} {k : Nat} (h : L[k]? = some m) (hn : ∀ j, j < k → L[j]? ≠ some m) : ixL L m = k := by
  obtain ⟨hk, he⟩ := List.getElem?_eq_some_iff.1 h
  unfold ixL
  rw [List.findIdx_eq hk]
  refine ⟨by simp [he], fun j hj => ?_⟩
  have := hn j hj
  rw [List.getElem?_eq_getElem (by omega)] at this
  simpa using this
theorem ixL_lt {L : List Int} {m : Int} (h : m ∈ L) : ixL L m < L.length := List.findIdx_lt_length_of_exists ⟨m, h, by simp⟩
theorem ixL_get {L : List Int} {m : Int} (h : m ∈ L) : L[ixL L m]? = some m := by
  have hl := ixL_lt h
  rw [List.getElem?_eq_getElem hl]
  have := List.findIdx_getElem (p := fun x => x == m) (xs := L) (w := hl)
  exact congrArg some (beq_iff_eq.1 this)
set_option maxHeartbeats 1000000 in
set_option maxRecDepth 100000 in
theorem mxOf_any (P : Nat → Prop) (v : Value) (L : List Int) (w : World) (h : Sl 1 encI P w v L) (h1 : 1 ≤ L.length) (hn : L.length ≤ 1000000) :
    Calls Try.prog 113 #[v] w fun e w' => e = .returned (.int .i64 (mxL L)) ∧ w = w' := by
  obtain ⟨ao, n, c, rfl, hl, hnc, hcm⟩ := h.shape
  have H := Lib.hid h
  have HL := Lib.hid hl
  have hn1 : n ≤ 1000000 := by omega
  have hn0 : 0 < n := by omega
  obtain ⟨b0, o0, x0, rfl, -, hbl0, hx0, hc0⟩ := h.int hn0
  have HX0 := Lib.hid hx0
  rw [Nat.add_zero] at hc0
  have hmx : mxL L = L.foldl max x0 := by unfold mxL; rw [hx0]; rfl
  have HMX := Lib.hid hmx
  have h01 : L.take 1 = [x0] := by have := take_snocZ hx0; simpa using this
  have H01 := Lib.hid h01
  clear h hl hn h1 hx0 hmx h01
  go_enter Try.func113, Try.ntmps113
  go_wp2
  go_loop [3, 4] (fun mv iv => ∃ k : Nat, 1 ≤ k ∧ k ≤ n ∧ iv = .int .i64 k ∧ mv = .int .i64 ((L.take k).foldl max x0)) (fun _ iv => n - (intOf iv).toNat)
  case atStart => exact ⟨1, by omega, by omega, rfl, by rw [H01.out]; simp⟩
  case round =>
    obtain ⟨k, hk1, hk, rfl, rfl⟩ := hrel
    by_cases hlt : k < n
    · obtain ⟨b, off, x, he, -, hbl, hxk, hck⟩ := H.out.int hlt
      cases he
      have hsn := mx_snoc (a := x0) hxk
      obtain ⟨T, hT⟩ : ∃ T, (L.take k).foldl max x0 = T := ⟨_, rfl⟩
      rw [hT] at hsn ⊢
      have HS := Lib.hid hsn
      clear hxk hsn hT
      go_wp2
      go_round
      case rel => exact ⟨k + 1, by omega, by omega, by go_num, by rw [HS.out]⟩
      case measure => simp [intOf]; omega
    · obtain rfl : k = n := by omega
      go_wp2
      go_ret
      refine ⟨ret_int ?_, rfl⟩
      rw [HMX.out, List.take_of_length_le (Nat.le_of_eq HL.out)]
set_option maxHeartbeats 1000000 in
set_option maxRecDepth 100000 in
theorem ixOf_any (P : Nat → Prop) (v : Value) (L : List Int) (m : Int) (w : World) (h : Sl 1 encI P w v L) (hm : m ∈ L) (hn : L.length ≤ 1000000) :
    Calls Try.prog 114 #[v, .int .i64 m] w fun e w' => e = .returned (.int .i64 (ixL L m)) ∧ w = w' := by
  obtain ⟨ao, n, c, rfl, hl, hnc, hcm⟩ := h.shape
  have H := Lib.hid h
  have HL := Lib.hid hl
  have HM := Lib.hid hm
  have hn1 : n ≤ 1000000 := by omega
  clear h hl hn hm
  go_enter Try.func114, Try.ntmps114
  go_wp2
  go_loop [8] (fun iv => ∃ k : Nat, k ≤ n ∧ iv = .int .i64 k ∧ ∀ j, j < k → L[j]? ≠ some m) (fun iv => n - (intOf iv).toNat)
  case atStart => exact ⟨0, by omega, rfl, fun j hj => by omega⟩
  case round =>
    obtain ⟨k, hk, rfl, hall⟩ := hrel
    have HA := Lib.hid hall
    clear hall
    by_cases hlt : k < n
    · obtain ⟨b, off, x, rfl, -, hbl, hxk, hck⟩ := H.out.int hlt
      have HX := Lib.hid hxk
      clear hxk
      by_cases hp : m = x
      · subst hp
        have hfin := Lib.hid (ixL_at HX.out HA.out)
        go_wp2
        go_ret
        exact ⟨ret_int (by rw [hfin.out]), rfl⟩
      · go_wp2
        go_round
        case rel => exact ⟨k + 1, by omega, by go_num, fun j hj => by
          rcases Nat.lt_or_ge j k with h | h
          · exact HA.out j h
          · obtain rfl : j = k := by omega
            rw [HX.out]
            simpa using fun h => hp h.symm⟩
        case measure => simp [intOf]; omega
    · obtain rfl : k = n := by omega
      exfalso
      obtain ⟨j, hj, he⟩ := List.mem_iff_getElem.1 HM.out
      have := HL.out
      exact HA.out j (by omega) (List.getElem?_eq_some_iff.2 ⟨hj, he⟩)
end Go.Proofs.Ytpoidaenkjjdfaa
