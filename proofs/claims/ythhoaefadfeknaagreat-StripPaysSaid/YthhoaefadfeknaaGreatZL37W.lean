/- StripPays: the walk. Printed by wip/gen/l37w.py. -/
import Derived.Test.YthhoaefadfeknaaGreatZL37R
import Derived.Test.YthhoaefadfeknaaGreatZStV
import Derived.Test.YthhoaefadfeknaaGreatZStM
import Derived.Test.YthhoaefadfeknaaGreatZStT
import Derived.Test.YthhoaefadfeknaaGreatZRefN
import Derived.Test.YthhoaefadfeknaaGreatZSrcOdd
namespace Go.Proofs.YthhoaefadfeknaaGreat
open Go.RowKit
set_option linter.unusedVariables false
set_option linter.unusedSimpArgs false
set_option maxHeartbeats 16000000 in
set_option maxRecDepth 100000 in
theorem pays_walk (k0 : Option Addr) (len0 cap0 : Nat) (w : World) (h1 : len0 ≤ cap0) (h2 : cap0 ≤ maxLen) (hz : len0 = 0 ∨ ∃ b off, k0 = some ⟨b, off, none⟩ ∧ ∀ i, i < len0 → ∃ z : Int, w.cell? ⟨b, off + i, none⟩ = some (.int .i64 z)) :
    Calls Tryz.prog 9 #[.slice k0 len0 cap0] w fun e w' => e = .returned (.bool true) ∧ Below w.heap.size w w' := by
  go_enter Tryz.func9, Tryz.ntmps9
  go_wp2_with fail
  refine (new_any k0 len0 cap0 w h1 h2 hz).mono ?_
  rintro e w1 ⟨sb, rfl, hsb, hS1, hB1⟩
  clear hz
  have hlt1 := srcOk_lt hS1
  have HS1 := Lib.hid hS1
  have HB1 := Lib.hid hB1
  clear hS1 hB1
  go_wp2_with fail
  refine (whole_any _).mono ?_
  rintro e w2 ⟨a0, n0, c0, a1, n1, c1, a2, n2, c2, a3, n3, c3, rfl, hv2, hb2⟩
  have z2 : w1.heap.size ≤ w2.heap.size := hb2.size
  have HV2 := Lib.hid (show VkIn (fun b => b < w2.heap.size ∧ b ≠ sb) w2 (.slice a0 n0 c0) (.slice a1 n1 c1) (.slice a2 n2 c2) (.slice a3 n3 c3) zR [] from hv2.mono (fun b hb hl => ⟨hl, by omega⟩))
  have HB2 := Lib.hid (bup HB1.out hb2)
  have HS2 := Lib.hid (srcOk_below HS1.out hb2 hlt1)
  clear hv2 hb2
  go_upto_region 3 with fail
  obtain ⟨W2, hW2⟩ : ∃ W, W = w2.alloc (.cells #[.slice a0 n0 c0, .slice a1 n1 c1, .slice a2 n2 c2, .slice a3 n3 c3] 69 (0, 0)) := ⟨_, rfl⟩
  rw [← hW2]
  have hbW2 : Below w2.heap.size w2 W2 := by rw [hW2]; exact bal brefl _
  have v0 : W2.cell? ⟨w2.heap.size, 0, none⟩ = some (.slice a0 n0 c0) := by rw [hW2]; exact World.cell?_alloc_at _ _ _ _ rfl
  have v1 : W2.cell? ⟨w2.heap.size, 1, none⟩ = some (.slice a1 n1 c1) := by rw [hW2]; exact World.cell?_alloc_at _ _ _ _ rfl
  have v2 : W2.cell? ⟨w2.heap.size, 2, none⟩ = some (.slice a2 n2 c2) := by rw [hW2]; exact World.cell?_alloc_at _ _ _ _ rfl
  have v3 : W2.cell? ⟨w2.heap.size, 3, none⟩ = some (.slice a3 n3 c3) := by rw [hW2]; exact World.cell?_alloc_at _ _ _ _ rfl
  have zW2 : w2.heap.size < W2.heap.size := World.block_lt_of_cell? _ _ v0
  have HV3 := Lib.hid (HV2.out.kp (Kp.below hbW2 (Nat.le_refl _)))
  have HB3 := Lib.hid (bup HB2.out hbW2)
  have HS3 := Lib.hid (srcOk_below HS2.out hbW2 (by omega))
  have hsv : ¬ w2.heap.size = sb := by omega
  clear hW2 hbW2
  go_wp2_with fail
  refine (range_any sb 1 9 _ HS3.out (by decide) (by decide) (by decide)).mono ?_
  rintro e w3 ⟨q, hq, rfl, hS4, hG4⟩
  obtain ⟨hq0, hq1⟩ := id hq
  have hwq : IntKind.i64.wrap (100 * q) = 100 * q := IntWalk.i64_in _ (by omega)
  have hg4 : ∀ o, w3.cell? ⟨w2.heap.size, o, none⟩ = W2.cell? ⟨w2.heap.size, o, none⟩ := fun o => World.cell?_of_block (a := ⟨w2.heap.size, o, none⟩) (hG4.block _ zW2 (by simp; omega))
  replace v0 := (hg4 _).trans v0
  replace v1 := (hg4 _).trans v1
  replace v2 := (hg4 _).trans v2
  replace v3 := (hg4 _).trans v3
  have hs34 : W2.heap.size ≤ w3.heap.size := hG4.size
  have HV4 := Lib.hid (HV3.out.kp (Kp.grown (B := w2.heap.size) hG4 (by omega)))
  have HB4 := Lib.hid (HB3.out.trans (below_of_grown hG4 hsb (by have := HB3.out.size; omega)))
  have HS4 := Lib.hid hS4
  have zw4 : w.heap.size ≤ w3.heap.size := HB4.out.size
  have hq' := Lib.hid hq
  clear hS4 hG4 hg4 hq
  have KS := stsplit_any (fun b => b ≠ sb) _ _ _ _ zR [] 5 1 1 (100 * q) w3 (HV4.out.mono (fun b hb _ => hb.2)) (fun b hb => by omega)
  obtain ⟨XR, hXR⟩ : ∃ X, pR q = X := ⟨_, rfl⟩
  obtain ⟨XL, hXL⟩ : ∃ X, pL q = X := ⟨_, rfl⟩
  have hpq := fun day hd => payq hq'.out (day := day) hd
  have hP0 := hpq 180 (by simp)
  rw [hP0.e1] at KS
  have hc1 := hP0.c1
  have hl1 := of_decide_eq_true hP0.l1
  rw [hXR] at hc1
  rw [hXL] at hl1
  unfold pR at hXR
  unfold pL at hXL
  rw [hXR, hXL] at KS
  have HXR := Lib.hid hXR
  have HXL := Lib.hid hXL
  have HPQ := Lib.hid hpq
  have HKS := Lib.hid KS
  have HC1 := Lib.hid hc1
  have HL1 := Lib.hid hl1
  clear KS hXR hXL hpq hP0 hc1 hl1
  go_wp2_with fail
  refine HKS.out.mono ?_
  rintro e w4 hg
  obtain ⟨e0, m0, d0, e1, m1, d1, e2, m2, d2, e3, m3, d3, rfl, hv5, hb5⟩ := GaveV.got hg HC1.out (by have := HL1.out; omega)
  have zs5 : w3.heap.size ≤ w4.heap.size := hb5.size
  have HV5 := Lib.hid (show VkIn (fun b => b < w4.heap.size ∧ b ≠ sb) w4 (.slice e0 m0 d0) (.slice e1 m1 d1) (.slice e2 m2 d2) (.slice e3 m3 d3) XR XL from hv5.mono (fun b hb hl => ⟨hl, hb⟩))
  have HVA5 := Lib.hid (HV4.out.kp (Kp.below hb5 (by omega)))
  have HB5 := Lib.hid (bup HB4.out hb5)
  have HS5 := Lib.hid (srcOk_below HS4.out hb5 (by have := srcOk_lt HS4.out; omega))
  replace v0 := keepB hb5 v0
  replace v1 := keepB hb5 v1
  replace v2 := keepB hb5 v2
  replace v3 := keepB hb5 v3
  clear hg hv5 hb5
  go_upto_region 7 with fail
  obtain ⟨W5, hW5⟩ : ∃ W, W = w4.alloc (.cells #[.slice e0 m0 d0, .slice e1 m1 d1, .slice e2 m2 d2, .slice e3 m3 d3] 69 (0, 0)) := ⟨_, rfl⟩
  rw [← hW5]
  have hbW5 : Below w4.heap.size w4 W5 := by rw [hW5]; exact bal brefl _
  have u0 : W5.cell? ⟨w4.heap.size, 0, none⟩ = some (.slice e0 m0 d0) := by rw [hW5]; exact World.cell?_alloc_at _ _ _ _ rfl
  have u1 : W5.cell? ⟨w4.heap.size, 1, none⟩ = some (.slice e1 m1 d1) := by rw [hW5]; exact World.cell?_alloc_at _ _ _ _ rfl
  have u2 : W5.cell? ⟨w4.heap.size, 2, none⟩ = some (.slice e2 m2 d2) := by rw [hW5]; exact World.cell?_alloc_at _ _ _ _ rfl
  have u3 : W5.cell? ⟨w4.heap.size, 3, none⟩ = some (.slice e3 m3 d3) := by rw [hW5]; exact World.cell?_alloc_at _ _ _ _ rfl
  replace v0 := keepB hbW5 v0
  replace v1 := keepB hbW5 v1
  replace v2 := keepB hbW5 v2
  replace v3 := keepB hbW5 v3
  have zW5 : w4.heap.size < W5.heap.size := World.block_lt_of_cell? _ _ u0
  have HV6 := Lib.hid (HV5.out.kp (Kp.below hbW5 (Nat.le_refl _)))
  have HVA6 := Lib.hid (HVA5.out.kp (Kp.below hbW5 (by omega)))
  have HB6 := Lib.hid (bup HB5.out hbW5)
  have HS6 := Lib.hid (srcOk_below HS5.out hbW5 (by have := srcOk_lt HS5.out; omega))
  have zsb : sb < W5.heap.size := srcOk_lt HS6.out
  have hsu : ¬ w4.heap.size = sb := by have := srcOk_lt HS4.out; omega
  clear hW5 hbW5
  go_wp2_with fail
  refine (pick_any sb W5.heap.size [180, 360, 540, 720] 4 4 (W5.alloc (.cells #[.int .i64 180, .int .i64 360, .int .i64 540, .int .i64 720] 3)) (srcOk_alloc HS6.out _) (by omega) (by decide) (by decide) rfl (by intro i h; match i, h with | 0, _ => exact World.cell?_alloc_at _ _ _ _ rfl | 1, _ => exact World.cell?_alloc_at _ _ _ _ rfl | 2, _ => exact World.cell?_alloc_at _ _ _ _ rfl | 3, _ => exact World.cell?_alloc_at _ _ _ _ rfl)).mono ?_
  rintro e w6 ⟨day, hd, rfl, hS7, hG7⟩
  have hG7' : W5.grownBy w6 (some sb) := ztrans (zbelow (bal brefl _) _) hG7
  have hPQ := HPQ.out day hd
  have hgu : ∀ o, w6.cell? ⟨w4.heap.size, o, none⟩ = W5.cell? ⟨w4.heap.size, o, none⟩ := fun o => World.cell?_of_block (a := ⟨w4.heap.size, o, none⟩) (hG7'.block _ zW5 (by simp; omega))
  have hgv : ∀ o, w6.cell? ⟨w2.heap.size, o, none⟩ = W5.cell? ⟨w2.heap.size, o, none⟩ := fun o => World.cell?_of_block (a := ⟨w2.heap.size, o, none⟩) (hG7'.block _ (by simp only; omega) (by simp; omega))
  replace u0 := (hgu _).trans u0
  replace u1 := (hgu _).trans u1
  replace u2 := (hgu _).trans u2
  replace u3 := (hgu _).trans u3
  replace v0 := (hgv _).trans v0
  replace v1 := (hgv _).trans v1
  replace v2 := (hgv _).trans v2
  replace v3 := (hgv _).trans v3
  have HV7 := Lib.hid (HV6.out.kp (Kp.grown (B := w4.heap.size) hG7' (by omega)))
  have HVA7 := Lib.hid (HVA6.out.kp (Kp.grown (B := w2.heap.size) hG7' (by omega)))
  have HB7 := Lib.hid (HB6.out.trans (below_of_grown hG7' hsb (by have := HB6.out.size; omega)))
  have zs7 : W5.heap.size ≤ w6.heap.size := hG7'.size
  have zsb7 : sb < w6.heap.size := by omega
  have fc1 := hPQ.c1
  have fl1 := hPQ.l1
  have fb1 := hPQ.b1
  have fbn := hPQ.bn
  have fb2 := hPQ.b2
  have fd1 := hPQ.d1
  have fd2 := hPQ.d2
  have fp1 := hPQ.p1
  have fpc := hPQ.pc
  have fpn := hPQ.pn
  have fp2 := hPQ.p2
  have fp3 := hPQ.p3
  have fp4 := hPQ.p4
  have ha1 := hPQ.a1
  have han := hPQ.an
  rw [show pR q = XR from HXR.out] at fc1 fb1 fbn fb2 fd1 fd2 fp1 fpc fpn fp2 fp3 fp4
  rw [show pL q = XL from HXL.out] at fl1 fb1 fbn fb2 fd1 fd2 fp1 fpc fpn fp2 fp3 fp4
  obtain ⟨DA, hDA⟩ : ∃ X, qdI zR [] day = X := ⟨_, rfl⟩
  obtain ⟨DB, hDB⟩ : ∃ X, qdI XR XL day = X := ⟨_, rfl⟩
  obtain ⟨YR, hYR⟩ : ∃ X, pyR XR XL day = X := ⟨_, rfl⟩
  obtain ⟨YL, hYL⟩ : ∃ X, pyL XR XL day = X := ⟨_, rfl⟩
  rw [hDA] at han fd1 fd2
  rw [hDB] at fbn fb2 fd1 fd2
  rw [hYR] at fpc fp3 fp4
  rw [hYL] at fpn fp2 fp3 fp4
  have KA := Lib.hid (fun (U : World) (hU : Below w6.heap.size w6 U) => stpending_any _ _ _ _ _ zR [] day U (HVA7.out.below hU))
  have KB := Lib.hid (fun (U : World) (hU : Below w6.heap.size w6 U) => stpending_any _ _ _ _ _ XR XL day U (HV7.out.below hU))
  have KY := Lib.hid (fun (U : World) (hU : Below w6.heap.size w6 U) => stpay_any (fun b => b ≠ sb) _ _ _ _ XR XL day U ((HV7.out.mono (fun b hb _ => hb.2)).below hU) (fun b hb => by have := hU.size; omega))
  rw [qdI_eq, hDA, ha1] at KA
  rw [qdI_eq, hDB, fb1] at KB
  rw [fp1, hYR, hYL] at KY
  have HAN := Lib.hid han
  have HBN := Lib.hid fbn
  have HB2X := Lib.hid fb2
  have HD1 := Lib.hid fd1
  have HD2 := Lib.hid fd2
  have HPC := Lib.hid fpc
  have HPN := Lib.hid fpn
  have HP2 := Lib.hid fp2
  have HP3 := Lib.hid fp3
  have HP4 := Lib.hid fp4
  have hdc : day = 180 ∨ day = 360 ∨ day = 540 ∨ day = 720 := by simpa using hd
  have HDC := Lib.hid hdc
  clear hd hS7 hG7 hG7' hPQ hgu hgv fc1 fl1 fb1 fbn fb2 fd1 fd2 fp1 fpc fpn fp2 fp3 fp4 ha1 han hDA hDB hYR hYL hdc
  go_wp2_with fail
  refine (KA.out _ brefl).mono ?_
  rintro e w7 ⟨va, rfl, hoA, hb8⟩
  replace u0 := keepB hb8 u0
  replace u1 := keepB hb8 u1
  replace u2 := keepB hb8 u2
  replace u3 := keepB hb8 u3
  replace v0 := keepB hb8 v0
  replace v1 := keepB hb8 v1
  replace v2 := keepB hb8 v2
  replace v3 := keepB hb8 v3
  have HA8 := Lib.hid (Sl.own encDue_len hoA rfl (P := fun _ => True) (fun _ _ => trivial))
  have HB8 := Lib.hid hb8
  obtain ⟨na, hna⟩ : ∃ n, DA.length = n := ⟨_, rfl⟩
  rw [hna] at hoA
  obtain ⟨aa, ca, rfl⟩ := own_sl hoA
  have HNA := Lib.hid hna
  have hna10 : na ≤ 10 := by rw [← hna]; exact of_decide_eq_true HAN.out
  clear hoA hb8 hna v0 v1 v2 v3
  go_wp2_with fail
  refine (KB.out _ HB8.out).mono ?_
  rintro e w8 ⟨vb, rfl, hoB, hb9⟩
  replace u0 := keepB hb9 u0
  replace u1 := keepB hb9 u1
  replace u2 := keepB hb9 u2
  replace u3 := keepB hb9 u3
  have HA9 := Lib.hid (HA8.out.below hb9)
  have HBB9 := Lib.hid (Sl.own encDue_len hoB rfl (P := fun _ => True) (fun _ _ => trivial))
  have HB9 := Lib.hid (bup HB8.out hb9)
  obtain ⟨nb, hnb⟩ : ∃ n, DB.length = n := ⟨_, rfl⟩
  rw [hnb] at hoB
  obtain ⟨ab, cb, rfl⟩ := own_sl hoB
  have HNB := Lib.hid hnb
  have hnb10 : nb ≤ 10 := by rw [← hnb]; exact of_decide_eq_true HBN.out
  clear hoB hb9 hnb
  have HU9 := Lib.hid (And.intro u0 (And.intro u1 (And.intro u2 u3)))
  clear u0 u1 u2 u3
  go_wp2
  go_loopw [13, 54] (fun p iv wr => ∃ k : Nat, k ≤ na ∧ iv = .int .i64 k ∧ p = .int .i64 (sumD (DA.take k)) ∧ Below w8.heap.size w8 wr) (fun _ iv _ => na - (intOf iv).toNat)
  case atStart => exact ⟨0, by omega, rfl, rfl, brefl⟩
  case round =>
    obtain ⟨k, hk, rfl, rfl, hbr⟩ := hrel
    have zr := hbr.size
    by_cases hlt : k < na
    · obtain ⟨bb, off, xd, xs, xh, xk, xa, rfl, -, hbl, hx, k0, k1, k2, k3, k4⟩ := (HA9.out.below hbr).due hlt
      have hkz : (k : Int) < (na : Int) := by omega
      have HSN := Lib.hid (sumD_snoc hx)
      have hk10 : k ≤ 10 := by omega
      obtain ⟨sA, hsA⟩ : ∃ s, sumD (DA.take k) = s := ⟨_, rfl⟩
      rw [hsA] at HSN ⊢
      have HBR := Lib.hid hbr
      clear hx hsA hbr
      go_wp2
      go_roundw
      case rel => exact ⟨k + 1, by omega, by go_num, by rw [HSN.out], bal HBR.out _⟩
      case measure => simp [intOf]; omega
    · obtain rfl : k = na := by omega
      have hAt : DA.take k = DA := List.take_of_length_le (by have := HNA.out; omega)
      rw [hAt]
      obtain ⟨sA, hsA⟩ : ∃ s, sumD DA = s := ⟨_, rfl⟩
      have hd1 := HD1.out
      have hd2 := HD2.out
      rw [hsA] at hd1 hd2 ⊢
      have HD1' := Lib.hid hd1
      have HD2' := Lib.hid hd2
      have HBB10 := Lib.hid (HBB9.out.below hbr)
      have HB10 := Lib.hid (bup HB9.out hbr)
      obtain ⟨u0, u1, u2, u3⟩ := HU9.out
      replace u0 := keepB hbr u0
      replace u1 := keepB hbr u1
      replace u2 := keepB hbr u2
      replace u3 := keepB hbr u3
      have HU10 := Lib.hid (And.intro u0 (And.intro u1 (And.intro u2 u3)))
      clear hAt hsA hd1 hd2 hbr u0 u1 u2 u3 HD1 HD2 HA9 HA8 HBB9
      go_wp2
      go_loopw [14, 65] (fun p iv wr2 => ∃ k : Nat, k ≤ nb ∧ iv = .int .i64 k ∧ p = .int .i64 (sumD (DB.take k)) ∧ Below wr.heap.size wr wr2) (fun _ iv _ => nb - (intOf iv).toNat)
      case atStart => exact ⟨0, by omega, rfl, rfl, brefl⟩
      case round =>
        obtain ⟨k, hk, rfl, rfl, hbr⟩ := hrel
        have zr := hbr.size
        by_cases hlt : k < nb
        · obtain ⟨bb, off, xd, xs, xh, xk, xa, rfl, -, hbl, hx, k0, k1, k2, k3, k4⟩ := (HBB10.out.below hbr).due hlt
          have hkz : (k : Int) < (nb : Int) := by omega
          have HSN := Lib.hid (sumD_snoc hx)
          have hxh : (xh == 1000) = false := by have := List.all_eq_true.1 HB2X.out _ (List.mem_of_getElem? hx); simpa using this
          have hxh2 : ¬ xh = 1000 := by simpa using hxh
          have hk10 : k ≤ 10 := by omega
          obtain ⟨sB, hsB⟩ : ∃ s, sumD (DB.take k) = s := ⟨_, rfl⟩
          rw [hsB] at HSN ⊢
          have HBR := Lib.hid hbr
          clear hx hsB hbr
          go_wp2
          go_roundw
          case rel => exact ⟨k + 1, by omega, by go_num, by rw [HSN.out], bal HBR.out _⟩
          case measure => simp [intOf]; omega
        · obtain rfl : k = nb := by omega
          have hAt : DB.take k = DB := List.take_of_length_le (by have := HNB.out; omega)
          rw [hAt]
          obtain ⟨sB, hsB⟩ : ∃ s, sumD DB = s := ⟨_, rfl⟩
          have hd1 := HD1'.out
          have hd2 := HD2'.out
          rw [hsB] at hd1 hd2 ⊢
          have HD1 := Lib.hid (of_decide_eq_true hd1)
          have HD2 := Lib.hid (of_decide_eq_true hd2)
          have HB11 := Lib.hid (bup HB10.out hbr)
          obtain ⟨u0, u1, u2, u3⟩ := HU10.out
          replace u0 := keepB hbr u0
          replace u1 := keepB hbr u1
          replace u2 := keepB hbr u2
          replace u3 := keepB hbr u3
          have zu : w4.heap.size < wr.heap.size := World.block_lt_of_cell? _ _ u0
          clear hAt hsB hd1 hd2 hbr HD1' HD2' HBB10 HU10 HU9
          go_wp2_with fail
          refine (KY.out _ HB11.out).mono ?_
          rintro e w10 hg
          obtain ⟨h0, i0, j0, h1', i1, j1, h2', i2, j2, h3, i3, j3, rfl, hv12, hb12⟩ := GaveV.got hg HPC.out (by have := of_decide_eq_true HPN.out; omega)
          have hi3 : YL.length = i3 := hv12.st.len
          have hi10 : i3 ≤ 10 := by rw [← hi3]; exact of_decide_eq_true HPN.out
          have HI3 := Lib.hid hi3
          have HV12 := Lib.hid hv12
          have HB12 := Lib.hid (bup HB11.out hb12)
          clear hg hv12 hb12 hi3 u0 u1 u2 u3
          go_upto_region 24 with fail
          obtain ⟨W12, hW12⟩ : ∃ W, W = w10.alloc (.cells #[.slice h0 i0 j0, .slice h1' i1 j1, .slice h2' i2 j2, .slice h3 i3 j3] 69 (0, 0)) := ⟨_, rfl⟩
          rw [← hW12]
          have hbW : Below w10.heap.size w10 W12 := by rw [hW12]; exact bal brefl _
          have z0 : W12.cell? ⟨w10.heap.size, 0, none⟩ = some (.slice h0 i0 j0) := by rw [hW12]; exact World.cell?_alloc_at _ _ _ _ rfl
          have z1 : W12.cell? ⟨w10.heap.size, 1, none⟩ = some (.slice h1' i1 j1) := by rw [hW12]; exact World.cell?_alloc_at _ _ _ _ rfl
          have z2 : W12.cell? ⟨w10.heap.size, 2, none⟩ = some (.slice h2' i2 j2) := by rw [hW12]; exact World.cell?_alloc_at _ _ _ _ rfl
          have z3 : W12.cell? ⟨w10.heap.size, 3, none⟩ = some (.slice h3 i3 j3) := by rw [hW12]; exact World.cell?_alloc_at _ _ _ _ rfl
          have HV13 := Lib.hid (HV12.out.below hbW)
          have HB13 := Lib.hid (bup HB12.out hbW)
          have HZ := Lib.hid (And.intro z0 (And.intro z1 (And.intro z2 z3)))
          clear hW12 hbW z0 z1 z2
          go_wp2
          go_loopw [86] (fun iv wr => ∃ k : Nat, k ≤ i3 ∧ iv = .int .i64 k ∧ Below W12.heap.size W12 wr) (fun iv _ => i3 - (intOf iv).toNat)
          case atStart => exact ⟨0, by omega, rfl, brefl⟩
          case round =>
            obtain ⟨k, hk, rfl, hbr⟩ := hrel
            have zr := hbr.size
            by_cases hlt : k < i3
            · obtain ⟨bb, off, s, d, p, u, a, rfl, -, hbl, hx, k0, k1, k2, k3, k4⟩ := (HV13.out.st.below hbr).stp hlt
              have hkz : (k : Int) < (i3 : Int) := by omega
              have hxd : day < d := by have := List.all_eq_true.1 HP2.out _ (List.mem_of_getElem? hx); simpa using this
              have hxd2 : ¬ d ≤ day := by omega
              have hk10 : k ≤ 10 := by omega
              have HBR := Lib.hid hbr
              clear hx hbr
              go_wp2
              go_roundw
              case rel => exact ⟨k + 1, by omega, by go_num, bal HBR.out _⟩
              case measure => simp [intOf]; omega
            · obtain rfl : i3 = k := by omega
              obtain ⟨z0, z1, z2, z3⟩ := HZ.out
              replace z0 := keepB hbr z0
              replace z1 := keepB hbr z1
              replace z2 := keepB hbr z2
              replace z3 := keepB hbr z3
              have zz : w10.heap.size < wr.heap.size := World.block_lt_of_cell? _ _ z0
              have hv14 := HV13.out.below hbr
              have KC := Lib.hid (fun (U : World) (hU : Below wr.heap.size wr U) => vcheck_any _ _ _ _ _ YR YL U (hv14.below hU))
              have KH := Lib.hid (fun (U : World) (hU : Below wr.heap.size wr U) => fHeld_any _ _ _ _ YR 1 1000 U (hv14.below hU).rg hv14.lS hv14.lH hv14.lM)
              rw [HP3.out] at KC
              have HFIN := Lib.hid (bup HB13.out hbr)
              have hd1 := HD1.out
              have hd2 := HD2.out
              have hp4 := HP4.out
              clear hbr hv14 HZ
              by_cases h7 : day < 720
              · clear hp4
                go_wp2_with fail
                refine (KC.out _ brefl).mono ?_
                rintro e w13 ⟨rfl, hb13⟩
                have HB14 := Lib.hid hb13
                clear hb13
                go_wp2_with fail
                refine (sane37_any _).mono ?_
                rintro e w15 ⟨rfl, hb15⟩
                go_wp2
                go_ret
                exact ⟨rfl, bup (bup HB7.out (bup HFIN.out HB14.out)) hb15⟩
              · have h72 : 720 ≤ day := by omega
                rw [show decide (day < 720) = false by simpa using h72, Bool.false_or, Bool.and_eq_true] at hp4
                obtain ⟨hp5, hp6⟩ := hp4
                have hi0 : i3 = 0 := by rw [← HI3.out, List.isEmpty_iff.1 hp5]; rfl
                subst hi0
                have hp6' : rgHeld YR 1 1000 = 0 := by simpa using hp6
                rw [hp6'] at KH
                clear hp5 hp6 hp6'
                go_wp2_with fail
                refine (KC.out _ brefl).mono ?_
                rintro e w13 ⟨rfl, hb13⟩
                replace z0 := keepB hb13 z0
                replace z1 := keepB hb13 z1
                replace z2 := keepB hb13 z2
                replace z3 := keepB hb13 z3
                have HB13' := Lib.hid hb13
                clear hb13
                go_wp2_with fail
                refine (KH.out _ HB13'.out).mono ?_
                rintro e w14 ⟨rfl, hb14⟩
                have HB14 := Lib.hid (bup HB13'.out hb14)
                clear hb14
                go_wp2_with fail
                refine (sane37_any _).mono ?_
                rintro e w15 ⟨rfl, hb15⟩
                go_wp2
                go_ret
                exact ⟨rfl, bup (bup HB7.out (bup HFIN.out HB14.out)) hb15⟩
end Go.Proofs.YthhoaefadfeknaaGreat
