/- IndexDues: the walk. -/
import Derived.Test.YtmhglabcnimegaaZL36P
import Derived.Test.YtmhglabcnimegaaZRfQ
namespace Go.Proofs.Ytmhglabcnimegaa
open Go.RowKit
set_option linter.unusedVariables false
set_option linter.unusedSimpArgs false
/-- blocks below B stay, but the source's -/
def KeepB (sb B : Nat) (W0 W : World) : Prop := ∀ k, k < B → k ≠ sb → W.heap[k]? = W0.heap[k]?
theorem KeepB.below {sb B : Nat} {W0 W W' : World} (h : KeepB sb B W0 W) (hb : Below W.heap.size W W') (hB : B ≤ W.heap.size) : KeepB sb B W0 W' := fun k hk hne => (hb.block k (by omega)).trans (h k hk hne)
theorem KeepB.grown {sb B : Nat} {W0 W W' : World} (h : KeepB sb B W0 W) (hg : W.grownBy W' (some sb)) (hB : B ≤ W.heap.size) : KeepB sb B W0 W' := fun k hk hne => (hg.block k (by omega) (by simpa using hne)).trans (h k hk hne)
theorem KeepB.set3 {sb B : Nat} {W0 W : World} (h : KeepB sb B W0 W) (v0 v1 v2 : Value) : KeepB sb B W0 (((W.setCell ⟨B, 0, none⟩ v0).setCell ⟨B, 1, none⟩ v1).setCell ⟨B, 2, none⟩ v2) := fun k hk hne => ((below_set3 W (Nat.le_refl B) v0 v1 v2).block k hk).trans (h k hk hne)
theorem pdL_len {R : Reg} (h : RgOk R) (day : Int) : (pdL R day).length ≤ 1600 := by
  unfold pdL
  split
  · have h1 := flat_len (pdF R day) (pdF_len R day) (rgAt R day)
    have h2 := at_len h day
    omega
  · simp
set_option maxHeartbeats 16000000 in
set_option maxRecDepth 100000 in
theorem idues_walk (k0 : Option Addr) (len0 cap0 : Nat) (w : World) (h1 : len0 ≤ cap0) (h2 : cap0 ≤ maxLen) (hz : len0 = 0 ∨ ∃ b off, k0 = some ⟨b, off, none⟩ ∧ ∀ i, i < len0 → ∃ z : Int, w.cell? ⟨b, off + i, none⟩ = some (.int .i64 z)) :
    Calls Try.prog 12 #[.slice k0 len0 cap0] w fun e w' => e = .returned (.bool true) ∧ Below w.heap.size w w' := by
  go_enter Try.func12, Try.ntmps12
  go_wp2_with fail
  refine (new_any k0 len0 cap0 w h1 h2 hz).mono ?_
  rintro e w1 ⟨sb, rfl, hsb, hS1, hB1⟩
  clear hz
  have hlt1 := srcOk_lt hS1
  go_wp2_with fail
  refine (tenth_any _).mono ?_
  rintro e w2 ⟨g, rfl, hg0, hg1, hgc, -, hb2⟩
  have hS2 := srcOk_below hS1 hb2 hlt1
  have hB2 := bup hB1 hb2
  have z2 := hb2.size
  have HGC := Lib.hid hgc
  obtain ⟨B, hBd⟩ : ∃ B, B = w2.heap.size + 1 + 1 := ⟨_, rfl⟩
  obtain ⟨W0, hW0⟩ : ∃ W, W = ((w2.alloc (.cells #[.int .i64 1, .int .i64 1, .int .i64 90, .int .i64 450, .int .i64 5000, .int .i64 6, .bool true] 41 (0, 0))).alloc (.cells #[.int .i64 0, .slice (some ⟨g, 0, none⟩) 14 14] 95 (0, 0))).alloc (.cells #[.slice none 0 0, .slice none 0 0, .slice none 0 0] 29 (0, 0)) := ⟨_, rfl⟩
  have hzW0 : W0.heap.size = w2.heap.size + 1 + 1 + 1 := by rw [hW0]; simp
  have hbS : W0.heap[w2.heap.size]? = some (.cells #[.int .i64 1, .int .i64 1, .int .i64 90, .int .i64 450, .int .i64 5000, .int .i64 6, .bool true] 41 (0, 0)) := by rw [hW0]; exact (heap_alloc_old _ _ (by simp <;> omega)).trans ((heap_alloc_old _ _ (by simp)).trans (heap_alloc_new w2 _))
  have hbI : W0.heap[w2.heap.size + 1]? = some (.cells #[.int .i64 0, .slice (some ⟨g, 0, none⟩) 14 14] 95 (0, 0)) := by rw [hW0]; exact (heap_alloc_old _ _ (by simp)).trans (heap_at (by simp))
  have hbR : W0.heap[w2.heap.size + 1 + 1]? = some (.cells #[.slice none 0 0, .slice none 0 0, .slice none 0 0] 29 (0, 0)) := by rw [hW0]; exact heap_at (by simp)
  have hbg : W0.heap[g]? = w2.heap[g]? := by rw [hW0]; exact (heap_alloc_old _ _ (by simp; omega)).trans ((heap_alloc_old _ _ (by simp; omega)).trans (heap_alloc_old _ _ hg1))
  have hst : StP w sb B W0 none none none 0 0 0 0 0 0 ⟨[], [], []⟩ := ⟨by rw [hBd]; exact hbR, rgIn_nil _ _, by rw [hW0]; exact srcOk_alloc (srcOk_alloc (srcOk_alloc hS2 _) _) _, by rw [hW0]; exact bal (bal (bal hB2 _) _) _, by omega⟩
  have hwB : w.heap.size ≤ B := by have := hB2.size; omega
  have hsB : sb < B := by omega
  have HST := Lib.hid hst
  have HBI := Lib.hid hbI
  have HBS := Lib.hid hbS
  have HBG := Lib.hid hbg
  have HZ0 := Lib.hid hzW0
  have HBD := Lib.hid hBd
  have HW0 := Lib.hid hW0
  clear hst hbI hbS hbR hbg hzW0 hW0 hS1 hS2 hB1 hB2 hb2 hgc hBd
  have s0 := cell_heap (i := 0) HBS.out rfl
  have s1 := cell_heap (i := 1) HBS.out rfl
  have s2 := cell_heap (i := 2) HBS.out rfl
  have s3 := cell_heap (i := 3) HBS.out rfl
  have s4 := cell_heap (i := 4) HBS.out rfl
  have s5 := cell_heap (i := 5) HBS.out rfl
  have s6 := cell_heap (i := 6) HBS.out rfl
  have y0 := cell_heap (i := 0) HST.out.bx rfl
  have y1 := cell_heap (i := 1) HST.out.bx rfl
  have y2 := cell_heap (i := 2) HST.out.bx rfl
  go_upto_region 4 with fail
  rw [← HW0.out, ← HBD.out]
  have hK1 := fadd_any (fun b => B < b) _ _ _ ⟨[], [], []⟩ 1 1 90 450 5000 6 true W0 HST.out.rg (by simp) (by simp) (by simp) (fun b hb => by have := HST.out.lt; omega) (.inl rfl)
  rw [show raE ⟨[], [], []⟩ ⟨1, 1, 90, 450, 5000, 6, true⟩ = 0 by kernel_rfl, show raR ⟨[], [], []⟩ ⟨1, 1, 90, 450, 5000, 6, true⟩ = dR [] by kernel_rfl] at hK1
  have HK1 := Lib.hid hK1
  clear hK1
  go_wp2_with fail
  refine HK1.out.mono ?_
  rintro e w3 hgv
  obtain ⟨b0, m0, d0, b1, m1, d1, b2, m2, d2, rfl, hq3, hb3⟩ := hgv.shape
  clear hgv s0 s1 s2 s3 s4 s5 s6 y0 y1 y2 HK1
  have HST3 := Lib.hid (StP.next HST.out hsB hwB hb3 hq3)
  have HKP3 := Lib.hid (KeepB.set3 (KeepB.below (fun k _ _ => rfl : KeepB sb B W0 W0) hb3 (by have := HST.out.lt; omega)) (.slice b0 m0 d0) (.slice b1 m1 d1) (.slice b2 m2 d2))
  have hbx := (hb3.block B HST.out.lt).trans HST.out.bx
  have y0 := cell_heap (i := 0) hbx rfl
  have y1 := cell_heap (i := 1) hbx rfl
  have y2 := cell_heap (i := 2) hbx rfl
  have f0 := frozen_of_row w3 _ 0 _ _ hbx
  have f1 := frozen_of_row w3 _ 1 _ _ hbx
  have f2 := frozen_of_row w3 _ 2 _ _ hbx
  clear hbx hq3 hb3
  go_wp2
  obtain ⟨W4, hW4⟩ : ∃ W, W = ((w3.setCell ⟨B, 0, none⟩ (.slice b0 m0 d0)).setCell ⟨B, 1, none⟩ (.slice b1 m1 d1)).setCell ⟨B, 2, none⟩ (.slice b2 m2 d2) := ⟨_, rfl⟩
  rw [← hW4] at HST3 HKP3
  clear y0 y1 y2 f0 f1 f2
  have HW4 := Lib.hid hW4
  clear hW4
  go_loopw [7] (fun hv wr => ∃ (L : List Int) (b0 b1 b2 : Option Addr) (m0 d0 m1 d1 m2 d2 : Nat), L.length ≤ 3 ∧ hv = .int .i64 ((L.length : Int) + 1) ∧ DAt L ∧ StP w sb B wr b0 b1 b2 m0 d0 m1 d1 m2 d2 (dR L) ∧ KeepB sb B W0 wr) (fun hv _ => (4 - intOf hv).toNat)
  case atStart => exact ⟨[], b0, b1, b2, m0, d0, m1, d1, m2, d2, by simp, rfl, dAt_nil, by rw [← HW4.out]; exact HST3.out, by rw [← HW4.out]; exact HKP3.out⟩
  case round =>
    clear HST3 HKP3 HW4
    obtain ⟨L, a0, a1, a2, n0, c0, n1, c1, n2, c2, hl3, rfl, hdat, hst, hkp⟩ := hrel
    have HD := Lib.hid hdat
    have HSR := Lib.hid hst
    have HKP := Lib.hid hkp
    have y0 := cell_heap (i := 0) hst.bx rfl
    have y1 := cell_heap (i := 1) hst.bx rfl
    have y2 := cell_heap (i := 2) hst.bx rfl
    clear hdat hst hkp
    by_cases hl2 : L.length ≤ 2
    · have hll : ((L.length : Int) + 1) ≤ 3 := by omega
      go_upto_region 8 with fail
      go_region_with (first | (go_at_call 16; refine (range_any sb _ _ _ ?_ (by decide) (by decide) (by decide)).mono ?_; (· first | exact HSR.out.src | exact srcOk_drewN HSR.out.src 1); rintro e wn ⟨v, hv, rfl, hS', hG'⟩; have hwv : IntKind.i64.wrap (1000 * v) = 1000 * v := IntWalk.i64_in _ (by omega); have HK := Lib.hid (show wr.grownBy wn (some sb) from (by first | exact hG' | exact grownBy_undrew hG')); have HSN := Lib.hid (HSR.out.grown hsB hsb hS' HK.out); have HNX := Lib.hid (dAt_next HD.out hl2 hv); have hbn := HSN.out.bx; have c0' := cell_heap (i := 0) hbn rfl; have c1' := cell_heap (i := 1) hbn rfl; have c2' := cell_heap (i := 2) hbn rfl; have HKN := Lib.hid (KeepB.grown HKP.out HK.out (by have := HSR.out.lt; omega)); clear hS' hG' hbn) | (go_at_call 39; have hIs := fIssue_any (fun b => B < b) _ _ _ (dR L) 90 1 ((L.length : Int) + 1) (1000 * v) wn HSN.out.rg (ok_len1 (chkE_iff.2 HD.out.ok)).1 (ok_len1 (chkE_iff.2 HD.out.ok)).2.1 (ok_len1 (chkE_iff.2 HD.out.ok)).2.2 (fun b hb => by have := HSN.out.lt; omega); rw [show rmE (dR L) ⟨0, 90, 1, 1, 0, (L.length : Int) + 1, 1000 * v⟩ = 0 from HNX.out.1, show rmR (dR L) ⟨0, 90, 1, 1, 0, (L.length : Int) + 1, 1000 * v⟩ = dR (L ++ [v]) from HNX.out.2.1] at hIs; refine hIs.mono ?_; rintro e w3' hg; obtain ⟨e0, u0, t0, e1, u1, t1, e2, u2, t2, rfl, hq3, hb3⟩ := hg.shape; have hbx3 := (hb3.block B HSN.out.lt).trans HSN.out.bx; have bx0 := cell_heap (i := 0) hbx3 rfl; have bx1 := cell_heap (i := 1) hbx3 rfl; have bx2 := cell_heap (i := 2) hbx3 rfl; have bf0 := frozen_of_row w3' _ 0 _ _ hbx3; have bf1 := frozen_of_row w3' _ 1 _ _ hbx3; have bf2 := frozen_of_row w3' _ 2 _ _ hbx3; have HNS := Lib.hid (StP.next HSN.out hsB hwB hb3 hq3); have HNK := Lib.hid (KeepB.set3 (KeepB.below HKN.out hb3 (by have := HSN.out.lt; omega)) (.slice e0 u0 t0) (.slice e1 u1 t1) (.slice e2 u2 t2)); clear hg hq3 hb3 hbx3 hIs))
      all_goals
        have hwl : IntKind.i64.wrap ((L.length : Int) + 1 + 1) = (L.length : Int) + 1 + 1 := IntWalk.i64_in _ (by omega)
        go_wp2
        go_roundw
        case rel => exact ⟨L ++ [v], e0, e1, e2, u0, t0, u1, t1, u2, t2, by simp; omega, by simp, HNX.out.2.2, HNS.out, HNK.out⟩
        case measure => simp [intOf]; omega
    · have hl : L.length = 3 := by omega
      have hgt : ¬ ((L.length : Int) + 1) ≤ 3 := by omega
      clear hl2
      go_wp2_with fail
      refine (pick_lit sb [270, 450, 300] _ _ _ _ HSR.out.src (by decide) (by decide) rfl rfl rfl).mono ?_
      rintro e w5 ⟨day, hday, rfl, hS5, hG5⟩
      have hd3 : day = 270 ∨ day = 450 ∨ day = 300 := by simpa using hday
      have HS5 := Lib.hid (HSR.out.grown hsB hsb hS5 hG5)
      have HK5 := Lib.hid (KeepB.grown HKP.out hG5 (by have := HSR.out.lt; omega))
      obtain ⟨p1, p2, p3⟩ := dues_plain HD.out hd3
      obtain ⟨l1, l2, l3⟩ := ok_len1 (chkE_iff.2 HD.out.ok)
      have hix : IxOk w5 (some ⟨g, 0, none⟩) 14 14 tenL := ⟨Nat.le_refl _, by unfold maxLen; omega, .inr ⟨g, 0, rfl, fun j hj => by
        have h5 := (HK5.out g (by have := HBD.out; omega) (by omega)).trans HBG.out
        rw [Nat.zero_add]
        exact (World.cell?_of_block (a := ⟨g, j, none⟩) h5).trans (HGC.out j hj)⟩⟩
      have hi5 := (HK5.out (w2.heap.size + 1) (by have := HBD.out; omega) (by omega)).trans HBI.out
      obtain ⟨A, hA⟩ : ∃ A, ipL 0 14 tenL (dR L) day = A := ⟨_, rfl⟩
      obtain ⟨M, hMM⟩ : ∃ M, pdL (dR L) day = M := ⟨_, rfl⟩
      rw [hA, hMM] at p3
      have hml : M.length ≤ 1600 := by rw [← hMM]; exact pdL_len HD.out.ok day
      have HML := Lib.hid hml
      clear hml
      have hK6 := ixpending_any 0 (some ⟨g, 0, none⟩) 14 14 tenL (fun b => B < b) _ _ _ (dR L) day w5 hix HS5.out.rg l1 l2 l3
      rw [p1, hA] at hK6
      have HK6 := Lib.hid hK6
      have hK7 := fun U (hU : Below w5.heap.size w5 U) => r34pending_any (fun b => B < b) _ _ _ (dR L) day U (HS5.out.rg.below hU) l1 l2 l3
      rw [p2, hMM] at hK7
      have HK7 := Lib.hid hK7
      have HREL := Lib.hid p3
      have y0 := cell_heap (i := 0) HS5.out.bx rfl
      have y1 := cell_heap (i := 1) HS5.out.bx rfl
      have y2 := cell_heap (i := 2) HS5.out.bx rfl
      have i0 := cell_heap (i := 0) hi5 rfl
      have i1 := cell_heap (i := 1) hi5 rfl
      have HYB := Lib.hid (And.intro y0 (And.intro y1 y2))
      clear hday hS5 hG5 p1 p2 p3 hix hi5 hA hMM hK6 hK7
      go_wp2_with fail
      refine HK6.out.mono ?_
      rintro e w6 ⟨v6, rfl, hown6, hb6⟩
      have hs6 : Sl 5 encDue (fun _ => True) w6 v6 A := Sl.own encDue_len hown6 rfl (fun _ _ => trivial)
      obtain ⟨o6, n6, c6, rfl, hn6, -, -⟩ := hs6.shape
      have HS6 := Lib.hid hs6
      have HN6 := Lib.hid hn6
      have HB6 := Lib.hid (bup HS5.out.bel hb6)
      have HU6 := Lib.hid hb6
      have z0 := keepB hb6 HYB.out.1
      have z1 := keepB hb6 HYB.out.2.1
      have z2' := keepB hb6 HYB.out.2.2
      clear hs6 hn6 hown6 hb6 y0 y1 y2 i0 i1
      go_wp2_with fail
      refine (HK7.out _ HU6.out).mono ?_
      rintro e w7 ⟨v7, rfl, hown7, hb7⟩
      have hs7 : Sl 5 encDue (fun _ => True) w7 v7 M := Sl.own encDue_len hown7 rfl (fun _ _ => trivial)
      obtain ⟨o7, n7, c7, rfl, hn7, -, -⟩ := hs7.shape
      have hnn : n7 = n6 := by rw [← hn7, ← HN6.out]; exact HREL.out.1.symm
      subst hnn
      have hle := HML.out
      have hn6b : n7 ≤ 1000000 := by omega
      have HS7 := Lib.hid hs7
      have HS6b := Lib.hid (HS6.out.below hb7)
      have HB7 := Lib.hid (bup HB6.out hb7)
      clear hs7 hn7 hown7 hb7 z0 z1 z2'
      go_wp2
      go_loopw [70] (fun iv wr => ∃ k : Nat, k ≤ n7 ∧ iv = .int .i64 k ∧ Below w7.heap.size w7 wr) (fun iv _ => n7 - (intOf iv).toNat)
      case atStart => exact ⟨0, by omega, rfl, brefl⟩
      case round =>
        obtain ⟨k, hk, rfl, hbr⟩ := hrel
        have HBR := Lib.hid hbr
        by_cases hlt : k < n7
        · obtain ⟨b, off, xd, xs, xh, xk, xa, rfl, -, -, hx, x0, x1, x2, x3, x4⟩ := (HS6b.out.below hbr).due hlt
          obtain ⟨b', off', yd, ys, yh, yk, ya, rfl, -, -, hy, y0, y1, y2, y3, y4⟩ := (HS7.out.below hbr).due hlt
          obtain ⟨r1, r2, r3, r4⟩ := HREL.out.2 k _ _ hx hy
          simp only at r1 r2 r3 r4
          subst r1 r2 r3
          have hkn : (k : Int) < n7 := by omega
          have hdl : decide (xa < ya) = false := by simpa using r4
          clear hx hy hbr
          go_wp2_with fail
          go_quiet (fail)
          go_wp2
          go_roundw
          case rel => exact ⟨k + 1, by omega, by go_num, below_drewZ HBR.out _⟩
          case measure => simp [intOf]; omega
        · clear hbr
          have HBR2 := Lib.hid (bup HB7.out HBR.out)
          go_wp2_with (go_at_call 71; refine (sane36_any _).mono ?_; rintro e w13 ⟨rfl, hb13⟩)
          go_ret
          exact ⟨rfl, bup HBR2.out (by assumption)⟩
end Go.Proofs.Ytmhglabcnimegaa
