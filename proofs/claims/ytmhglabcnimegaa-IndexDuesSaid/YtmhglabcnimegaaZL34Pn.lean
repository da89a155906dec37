/- CouponPending: the walk. -/
import Derived.Test.YtmhglabcnimegaaZCpnE
import Derived.Test.YtmhglabcnimegaaZL34Base
import Derived.Test.YtmhglabcnimegaaZSrcReg
namespace Go.Proofs.Ytmhglabcnimegaa
open Go.RowKit
set_option linter.unusedVariables false
set_option linter.unusedSimpArgs false
def halfS : Sec := ⟨1, 1, 0, 720, 5000, 6, false⟩
def pR1 : Reg := raR ⟨[], [], []⟩ halfS
def pR2 (q : Int) : Reg := rmR pR1 ⟨0, 0, 1, 1, 0, 1, 1000 * q⟩
def pR3 (q : Int) : Reg := rmR (pR2 q) ⟨0, 179, 2, 1, 1, 2, 1000 * q⟩
structure PendQ (q : Int) : Prop where
  e1 : raE ⟨[], [], []⟩ halfS = 0
  c1 : chkE pR1 = 0
  c2 : chkE (pR2 q) = 0
  c3 : chkE (pR3 q) = 0
  e3 : rmE (pR2 q) ⟨0, 179, 2, 1, 1, 2, 1000 * q⟩ = 0
  p1 : pdE (pR3 q) 180 = 0
  l1 : pdL (pR3 q) 180 = [⟨180, 1, 2, 1, cpN 1 1 0 720 5000 6 (1000 * q)⟩]
  p2 : pdE (pR3 q) 179 = 0
  l2 : pdL (pR3 q) 179 = []
theorem pendq {q : Int} (h : 1 ≤ q ∧ q ≤ 9) : PendQ q := by
  obtain rfl | rfl | rfl | rfl | rfl | rfl | rfl | rfl | rfl : q = 1 ∨ q = 2 ∨ q = 3 ∨ q = 4 ∨ q = 5 ∨ q = 6 ∨ q = 7 ∨ q = 8 ∨ q = 9 := by omega
  all_goals exact ⟨by kernel_rfl, by kernel_rfl, by kernel_rfl, by kernel_rfl, by kernel_rfl, by kernel_rfl, by kernel_rfl, by kernel_rfl, by kernel_rfl⟩
/-- where the law stands: the register in its box -/
structure StP (w : World) (sb B : Nat) (W : World) (b0 b1 b2 : Option Addr) (m0 d0 m1 d1 m2 d2 : Nat) (Q : Reg) : Prop where
  bx : W.heap[B]? = some (.cells #[.slice b0 m0 d0, .slice b1 m1 d1, .slice b2 m2 d2] 29 (0, 0))
  rg : RgIn (fun b => B < b) W (.slice b0 m0 d0) (.slice b1 m1 d1) (.slice b2 m2 d2) Q
  src : SrcOk W sb
  bel : Below w.heap.size w W
  lt : B < W.heap.size
theorem StP.next {w W w3 : World} {sb B : Nat} {b0 b1 b2 : Option Addr} {m0 d0 m1 d1 m2 d2 : Nat} {Q : Reg} {p0 p1 p2 : Option Addr} {i0 j0 i1 j1 i2 j2 : Nat} {Q' : Reg} (h : StP w sb B W b0 b1 b2 m0 d0 m1 d1 m2 d2 Q) (hsb : sb < B) (hB : w.heap.size ≤ B) (hb : Below W.heap.size W w3) (hq : RgIn (fun b => B < b) w3 (.slice p0 i0 j0) (.slice p1 i1 j1) (.slice p2 i2 j2) Q') :
    StP w sb B (((w3.setCell ⟨B, 0, none⟩ (.slice p0 i0 j0)).setCell ⟨B, 1, none⟩ (.slice p1 i1 j1)).setCell ⟨B, 2, none⟩ (.slice p2 i2 j2)) p0 p1 p2 i0 j0 i1 j1 i2 j2 Q' := by
  have hb3 := (hb.block B h.lt).trans h.bx
  have e0 := heap_setCell_same w3 _ 0 _ _ (.slice p0 i0 j0) hb3
  have e1 := heap_setCell_same _ _ 1 _ _ (.slice p1 i1 j1) e0
  have e2 := heap_setCell_same _ _ 2 _ _ (.slice p2 i2 j2) e1
  have hz := hb.size
  have hl := h.lt
  have hb4 : Below B w3 (((w3.setCell ⟨B, 0, none⟩ (.slice p0 i0 j0)).setCell ⟨B, 1, none⟩ (.slice p1 i1 j1)).setCell ⟨B, 2, none⟩ (.slice p2 i2 j2)) := below_set3 w3 (Nat.le_refl B) _ _ _
  exact ⟨e2, hq.set3 (fun k hk => by omega), srcOk_below (srcOk_below h.src hb (by omega)) hb4 hsb, (bup h.bel hb).trans (hb4.mono hB), Nat.lt_of_lt_of_le (by omega : B < w3.heap.size) hb4.size⟩
theorem StP.grown {w W W' : World} {sb B : Nat} {b0 b1 b2 : Option Addr} {m0 d0 m1 d1 m2 d2 : Nat} {Q : Reg} (h : StP w sb B W b0 b1 b2 m0 d0 m1 d1 m2 d2 Q) (hsb : sb < B) (hB : w.heap.size ≤ sb) (hs : SrcOk W' sb) (hg : W.grownBy W' (some sb)) : StP w sb B W' b0 b1 b2 m0 d0 m1 d1 m2 d2 Q :=
  ⟨(hg.block B h.lt (by simp; omega)).trans h.bx, h.rg.grown hg (fun b hb => by omega), hs, h.bel.trans (below_of_grown hg hB h.bel.size), Nat.lt_of_lt_of_le h.lt hg.size⟩
theorem StP.below {w W W' : World} {sb B : Nat} {b0 b1 b2 : Option Addr} {m0 d0 m1 d1 m2 d2 : Nat} {Q : Reg} (h : StP w sb B W b0 b1 b2 m0 d0 m1 d1 m2 d2 Q) (hsb : sb < B) (hb : Below W.heap.size W W') : StP w sb B W' b0 b1 b2 m0 d0 m1 d1 m2 d2 Q :=
  ⟨(hb.block B h.lt).trans h.bx, h.rg.below hb, srcOk_below h.src hb (by have := h.lt; omega), bup h.bel hb, Nat.lt_of_lt_of_le h.lt hb.size⟩
theorem ok_len1 {R : Reg} (h : chkE R = 0) : R.secs.length ≤ 1000000 ∧ R.hs.length ≤ 1000000 ∧ R.ms.length ≤ 1000000 := by
  have h := chkE_iff.1 h
  exact ⟨by have := h.ls; omega, by have := h.hl; omega, by have := h.lm; omega⟩
set_option maxHeartbeats 16000000 in
set_option maxRecDepth 100000 in
theorem pend_walk (k0 : Option Addr) (len0 cap0 : Nat) (w : World) (h1 : len0 ≤ cap0) (h2 : cap0 ≤ maxLen) (hz : len0 = 0 ∨ ∃ b off, k0 = some ⟨b, off, none⟩ ∧ ∀ i, i < len0 → ∃ z : Int, w.cell? ⟨b, off + i, none⟩ = some (.int .i64 z)) :
    Calls Try.prog 7 #[.slice k0 len0 cap0] w fun e w' => e = .returned (.bool true) ∧ Below w.heap.size w w' := by
  have HP1 := Lib.hid (pendq (q := 1) (by omega))
  go_enter Try.func7, Try.ntmps7
  go_wp2_with fail
  refine (new_any k0 len0 cap0 w h1 h2 hz).mono ?_
  rintro e w1 ⟨sb, rfl, hsb, hS1, hB1⟩
  clear hz
  have hlt1 := srcOk_lt hS1
  have hst : StP w sb w1.heap.size (w1.alloc (.cells #[.slice none 0 0, .slice none 0 0, .slice none 0 0] 29 (0, 0))) none none none 0 0 0 0 0 0 ⟨[], [], []⟩ := ⟨heap_alloc_new w1 _, rgIn_nil _ _, srcOk_alloc hS1 _, bal hB1 _, by simp⟩
  have hwB : w.heap.size ≤ w1.heap.size := hB1.size
  have HST := Lib.hid hst
  clear hst hS1 hB1
  go_upto_region 3 with fail
  obtain ⟨W0, hW0⟩ : ∃ W, W = w1.alloc (.cells #[.slice none 0 0, .slice none 0 0, .slice none 0 0] 29 (0, 0)) := ⟨_, rfl⟩
  try rw [← hW0]
  rw [← hW0] at HST
  clear hW0
  have y0 := cell_heap (i := 0) HST.out.bx rfl
  have y1 := cell_heap (i := 1) HST.out.bx rfl
  have y2 := cell_heap (i := 2) HST.out.bx rfl
  go_cut [4] (fun s4 wx => ∃ (b0 b1 b2 : Option Addr) (m0 d0 m1 d1 m2 d2 : Nat), s4 = .pointer (some ⟨w1.heap.size, 0, none⟩) ∧ StP w sb w1.heap.size wx b0 b1 b2 m0 d0 m1 d1 m2 d2 pR1)
  case first =>
    go_region_with (first | (go_at_call 56; refine (half_any _).mono ?_; rintro e w2 ⟨rfl, hb2⟩; have HB2 := Lib.hid (show Below W0.heap.size W0 w2 from ⟨hb2.os, hb2.tape, hb2.output, hb2.size, hb2.block⟩); have c0' := keepB HB2.out y0; have c1' := keepB HB2.out y1; have c2' := keepB HB2.out y2; clear hb2) | (go_at_call 34; refine (fadd_any (fun b => w1.heap.size < b) _ _ _ ⟨[], [], []⟩ 1 1 0 720 5000 6 false w2 (HST.out.rg.below HB2.out) (by simp) (by simp) (by simp) (fun b hb => by have := HB2.out.size; have := HST.out.lt; omega) (.inl rfl)).mono ?_; rw [show raE ⟨[], [], []⟩ ⟨1, 1, 0, 720, 5000, 6, false⟩ = 0 from HP1.out.e1]; rintro e w3 hg; obtain ⟨b0, m0, d0, b1, m1, d1, b2, m2, d2, rfl, hq3, hb3⟩ := hg.shape; have HQ3 := Lib.hid hq3; have HB3 := Lib.hid hb3; have hbx3 := (hb3.block w1.heap.size (by have := HB2.out.size; have := HST.out.lt; omega)).trans ((HB2.out.block w1.heap.size HST.out.lt).trans HST.out.bx); have bx0 := cell_heap (i := 0) hbx3 rfl; have bx1 := cell_heap (i := 1) hbx3 rfl; have bx2 := cell_heap (i := 2) hbx3 rfl; have bf0 := frozen_of_row w3 _ 0 _ _ hbx3; have bf1 := frozen_of_row w3 _ 1 _ _ hbx3; have bf2 := frozen_of_row w3 _ 2 _ _ hbx3; clear hg hq3 hb3 hbx3))
    all_goals (go_wp2_with fail; go_meet)
    all_goals exact ⟨b0, b1, b2, m0, d0, m1, d1, m2, d2, rfl, StP.next (HST.out.below hlt1 HB2.out) hlt1 hwB HB3.out HQ3.out⟩
  case rest =>
    obtain ⟨a0, a1, a2, n0, c0, n1, c1, n2, c2, rfl, hA⟩ := hcut
    have HA := Lib.hid hA
    clear hA y0 y1 y2 HST
    go_wp2_with fail
    refine (range_any sb 1 9 _ HA.out.src (by decide) (by decide) (by decide)).mono ?_
    rintro e w4 ⟨q, hq, rfl, hS4, hG4⟩
    have HPQ := Lib.hid (pendq hq)
    have HA4 := Lib.hid (HA.out.grown hlt1 hsb hS4 hG4)
    obtain ⟨q0, q1⟩ := hq
    have hwq : IntKind.i64.wrap (1000 * q) = 1000 * q := IntWalk.i64_in _ (by omega)
    clear hS4 hG4 HA
    obtain ⟨l1a, l1b, l1c⟩ := ok_len1 HPQ.out.c1
    obtain ⟨l2a, l2b, l2c⟩ := ok_len1 HPQ.out.c2
    obtain ⟨l3a, l3b, l3c⟩ := ok_len1 HPQ.out.c3
    have y0 := cell_heap (i := 0) HA4.out.bx rfl
    have y1 := cell_heap (i := 1) HA4.out.bx rfl
    have y2 := cell_heap (i := 2) HA4.out.bx rfl
    go_wp2_with fail
    refine (fIssue_any (fun b => w1.heap.size < b) _ _ _ pR1 0 1 1 (1000 * q) w4 HA4.out.rg l1a l1b l1c (fun b hb => by have := HA4.out.lt; omega)).mono ?_
    rintro e w5 hg
    obtain ⟨b0, m0, d0, b1, m1, d1, b2, m2, d2, rfl, hq5, hb5⟩ := hg.shape
    clear hg y0 y1 y2
    have HST5 := Lib.hid (StP.next (Q' := pR2 q) HA4.out hlt1 hwB hb5 hq5)
    have hbx := (hb5.block w1.heap.size HA4.out.lt).trans HA4.out.bx
    have y0 := cell_heap (i := 0) hbx rfl
    have y1 := cell_heap (i := 1) hbx rfl
    have y2 := cell_heap (i := 2) hbx rfl
    have f0 := frozen_of_row w5 _ 0 _ _ hbx
    have f1 := frozen_of_row w5 _ 1 _ _ hbx
    have f2 := frozen_of_row w5 _ 2 _ _ hbx
    clear hbx
    clear hq5 hb5
    go_upto_region 6 with fail
    obtain ⟨W6, hW6⟩ : ∃ W, W = ((w5.setCell ⟨w1.heap.size, 0, none⟩ (.slice b0 m0 d0)).setCell ⟨w1.heap.size, 1, none⟩ (.slice b1 m1 d1)).setCell ⟨w1.heap.size, 2, none⟩ (.slice b2 m2 d2) := ⟨_, rfl⟩
    rw [← hW6]
    rw [← hW6] at HST5
    clear hW6 y0 y1 y2 f0 f1 f2
    have y0 := cell_heap (i := 0) HST5.out.bx rfl
    have y1 := cell_heap (i := 1) HST5.out.bx rfl
    have y2 := cell_heap (i := 2) HST5.out.bx rfl
    have hK6 := fTransfer_any (fun b => w1.heap.size < b) _ _ _ (pR2 q) 179 1 1 2 (1000 * q) W6 HST5.out.rg l2a l2b l2c (fun b hb => by have := HST5.out.lt; omega)
    rw [HPQ.out.e3] at hK6
    have HK6 := Lib.hid hK6
    clear hK6
    go_wp2_with fail
    refine HK6.out.mono ?_
    rintro e w7 hg
    obtain ⟨g0, i0, j0, g1, i1, j1, g2, i2, j2, rfl, hq7, hb7⟩ := hg.shape
    clear hg y0 y1 y2
    have HST7 := Lib.hid (StP.next (Q' := pR3 q) HST5.out hlt1 hwB hb7 hq7)
    have hbx := (hb7.block w1.heap.size HST5.out.lt).trans HST5.out.bx
    have y0 := cell_heap (i := 0) hbx rfl
    have y1 := cell_heap (i := 1) hbx rfl
    have y2 := cell_heap (i := 2) hbx rfl
    have f0 := frozen_of_row w7 _ 0 _ _ hbx
    have f1 := frozen_of_row w7 _ 1 _ _ hbx
    have f2 := frozen_of_row w7 _ 2 _ _ hbx
    clear hbx
    clear hq7 hb7
    go_upto_region 7 with fail
    obtain ⟨W8, hW8⟩ : ∃ W, W = ((w7.setCell ⟨w1.heap.size, 0, none⟩ (.slice g0 i0 j0)).setCell ⟨w1.heap.size, 1, none⟩ (.slice g1 i1 j1)).setCell ⟨w1.heap.size, 2, none⟩ (.slice g2 i2 j2) := ⟨_, rfl⟩
    rw [← hW8]
    rw [← hW8] at HST7
    clear hW8 y0 y1 y2 f0 f1 f2
    have y0 := cell_heap (i := 0) HST7.out.bx rfl
    have y1 := cell_heap (i := 1) HST7.out.bx rfl
    have y2 := cell_heap (i := 2) HST7.out.bx rfl
    have hK8 := pending_any (fun b => w1.heap.size < b) _ _ _ (pR3 q) 180 W8 HST7.out.rg l3a l3b l3c
    rw [HPQ.out.p1, HPQ.out.l1] at hK8
    have HK8 := Lib.hid hK8
    clear hK8
    go_wp2_with fail
    refine HK8.out.mono ?_
    rintro e w9 ⟨v9, rfl, hown9, hb9⟩
    have hs9 : Sl 5 encDue (fun _ => True) w9 v9 [⟨180, 1, 2, 1, cpN 1 1 0 720 5000 6 (1000 * q)⟩] := Sl.own encDue_len hown9 rfl (fun _ _ => trivial)
    obtain ⟨o9, n9, c9, rfl, hn9, -, -⟩ := hs9.shape
    have hn9' : n9 = 1 := by rw [← hn9]; rfl
    subst hn9'
    have HS9 := Lib.hid hs9
    have HST9 := Lib.hid (HST7.out.below hlt1 hb9)
    clear hown9 hb9 hs9 hn9 y0 y1 y2
    have y0 := cell_heap (i := 0) HST9.out.bx rfl
    have y1 := cell_heap (i := 1) HST9.out.bx rfl
    have y2 := cell_heap (i := 2) HST9.out.bx rfl
    have hK10 := pending_any (fun b => w1.heap.size < b) _ _ _ (pR3 q) 179 w9 HST9.out.rg l3a l3b l3c
    rw [HPQ.out.p2, HPQ.out.l2] at hK10
    have HK10 := Lib.hid hK10
    clear hK10
    go_wp2_with fail
    refine HK10.out.mono ?_
    rintro e w10 ⟨v10, rfl, hown10, hb10⟩
    obtain ⟨o10, c10, rfl⟩ := own_slice0' hown10
    simp only [List.length_nil]
    have HS10 := Lib.hid (HS9.out.below hb10)
    have HB10 := Lib.hid (HST9.out.below hlt1 hb10).bel
    clear hown10 hb10 y0 y1 y2
    go_wp2_with fail
    refine (half_any _).mono ?_
    rintro e w11 ⟨rfl, hb11⟩
    have HS11 := Lib.hid (HS10.out.below hb11)
    have HB11 := Lib.hid (bup HB10.out hb11)
    obtain ⟨F, hF⟩ : ∃ F, cpN 1 1 0 720 5000 6 (1000 * q) = F := ⟨_, rfl⟩
    have hK12 := coupon_any 1 1 0 720 5000 6 false (1000 * q) w11
    rw [hF] at hK12 HS11
    have HK12 := Lib.hid hK12
    clear hK12 hb11 hF
    go_wp2_with fail
    refine HK12.out.mono ?_
    rintro e w12 ⟨rfl, hb12⟩
    obtain ⟨b, off, vd, vs, vh, vk, va, rfl, -, hbl, hx, x0, x1, x2, x3, x4⟩ := (HS11.out.below hb12).due (k := 0) (by omega)
    simp only [List.getElem?_cons_zero, Option.some.injEq, Due.mk.injEq] at hx
    obtain ⟨rfl, rfl, rfl, rfl, rfl⟩ := hx
    simp only [Nat.zero_mul, Nat.add_zero] at x0 x1 x2 x3 x4
    have HB12 := Lib.hid (bup HB11.out hb12)
    clear hb12
    go_wp2_with (go_at_call 59; refine (sane34_any _).mono ?_; rintro e w13 ⟨rfl, hb13⟩)
    go_ret
    exact ⟨rfl, bup HB12.out (by assumption)⟩
end Go.Proofs.Ytmhglabcnimegaa
