/- AuctionYields: the walk. -/
import Derived.Test.YtenbbmmbpjjjpaaZAucV
import Derived.Test.YtenbbmmbpjjjpaaZL32Q
namespace Go.Proofs.Ytenbbmmbpjjjpaa
open Go.RowKit
set_option linter.unusedVariables false
set_option linter.unusedSimpArgs false

set_option maxHeartbeats 16000000 in
set_option maxRecDepth 100000 in
theorem yields_walk (a0 : Option Addr) (len0 cap0 : Nat) (w : World) (h1 : len0 ≤ cap0) (h2 : cap0 ≤ maxLen) (hz : len0 = 0 ∨ ∃ b off, a0 = some ⟨b, off, none⟩ ∧ ∀ i, i < len0 → ∃ z : Int, w.cell? ⟨b, off + i, none⟩ = some (.int .i64 z)) :
    Calls Try.prog 8 #[.slice a0 len0 cap0] w fun e w' => e = .returned (.bool true) ∧ Below w.heap.size w w' := by
  go_enter Try.func8, Try.ntmps8
  go_wp2_with fail
  refine (new_any a0 len0 cap0 w h1 h2 hz).mono ?_
  rintro e w1 ⟨sb, rfl, hsb, hS1, hB1⟩
  clear hz
  have HS1 := Lib.hid hS1
  have HB1 := Lib.hid hB1
  clear hS1 hB1
  go_wp2_with fail
  refine (soffer_any sb _ HS1.out).mono ?_
  rintro e w2 ⟨am, le, sh, un, rfl, ho, hS2, hG2⟩
  have HS2 := Lib.hid hS2
  have HG2 := Lib.hid hG2
  clear hS2 hG2
  go_wp2_with fail
  refine (sbids_any sb 9 _ HS2.out (by decide) (by decide)).mono ?_
  rintro e w3 ⟨bv, L, rfl, hw3, hL, hS3, hG3⟩
  have HI := Lib.hid (hL.into (by decide) ho)
  have hb3 := Sl.own (P := fun _ => True) encBid_len hw3 rfl (fun _ _ => trivial)
  obtain ⟨ba, n, bc, rfl, hn, -, -⟩ := hb3.shape
  have hn9 : n ≤ 9 := by have := hL.n; omega
  have HB3 := Lib.hid (HB1.out.trans (below_of_grown (grownBy_trans HG2.out hG3) hsb HB1.out.size))
  have HL3 := Lib.hid hb3
  have HYL := Lib.hid (yields_ok HI.out)
  have HAW1 := Lib.hid (HI.out.awd false)
  have HAW2 := Lib.hid (HI.out.awd true)
  have KH := Lib.hid (fun (f : Bool) (U : World) (hU : Below w3.heap.size w3 U) => hold_any (fun _ => True) am le sh f _ L U (HL3.out.below hU) HI.out.ok HI.out.k HI.out.n HI.out.o HI.out.p)
  have hAl : (hdA am le sh false L).length ≤ 60 := by have := awT_len le false (srB L) (hdG am le sh (srB L)) (srB L).length; have := HI.out.S60; unfold hdA; omega
  have hBl : (hdA am le sh true L).length ≤ 60 := by rw [← HYL.out.l]; exact hAl
  clear hw3 hS3 hG3 hb3 hL
  obtain ⟨C, hC⟩ : ∃ x, hdC am le sh L = x := ⟨_, rfl⟩
  obtain ⟨T, hT⟩ : ∃ x, hdS am le sh L = x := ⟨_, rfl⟩
  have KF := Lib.hid (KH.out false)
  have KT := Lib.hid (KH.out true)
  obtain ⟨A, hA⟩ : ∃ x, hdA am le sh false L = x := ⟨_, rfl⟩
  obtain ⟨B, hB⟩ : ∃ x, hdA am le sh true L = x := ⟨_, rfl⟩
  rw [hC, hT, hA] at KF
  rw [hC, hT, hB] at KT
  rw [hA, hB] at HYL
  rw [hA] at HAW1 hAl
  rw [hB] at HAW2 hBl
  clear hC hT hA hB HI KH
  have HO := Lib.hid ho
  have HN := Lib.hid hn
  have HAL := Lib.hid hAl
  have HBL := Lib.hid hBl
  clear ho hn hAl hBl
  go_upto_region 4 with fail
  obtain ⟨W3, hW3⟩ : ∃ W, W = w3.alloc (.cells #[.int .i64 am, .int .i64 le, .int .i64 sh, .bool false] 26 (0, 0)) := ⟨_, rfl⟩
  rw [← hW3]
  have hb3 : Below w3.heap.size w3 W3 := by rw [hW3]; exact bal brefl _
  have X3 : W3.heap[w3.heap.size]? = some (.cells #[.int .i64 am, .int .i64 le, .int .i64 sh, .bool false] 26 (0, 0)) := by rw [hW3]; exact heap_alloc_new _ _
  have o0 : W3.cell? ⟨w3.heap.size, 0, none⟩ = some (.int .i64 am) := cell_heap X3 rfl
  have o1 : W3.cell? ⟨w3.heap.size, 1, none⟩ = some (.int .i64 le) := cell_heap X3 rfl
  have o2 : W3.cell? ⟨w3.heap.size, 2, none⟩ = some (.int .i64 sh) := cell_heap X3 rfl
  have o3 : W3.cell? ⟨w3.heap.size, 3, none⟩ = some (.bool false) := cell_heap X3 rfl
  have hz3 : w3.heap.size < W3.heap.size := World.block_lt_of_cell? _ _ o0
  have HBX := Lib.hid hb3
  have HX3 := Lib.hid X3
  clear hb3 X3 hW3
  go_wp2_with fail
  refine (KF.out _ HBX.out).mono ?_
  rintro e w4 ⟨av, rfl, hw4, hb4⟩
  have X4 := (hb4.block _ hz3).trans HX3.out
  have o0 : w4.cell? ⟨w3.heap.size, 0, none⟩ = some (.int .i64 am) := cell_heap X4 rfl
  have o1 : w4.cell? ⟨w3.heap.size, 1, none⟩ = some (.int .i64 le) := cell_heap X4 rfl
  have o2 : w4.cell? ⟨w3.heap.size, 2, none⟩ = some (.int .i64 sh) := cell_heap X4 rfl
  have o3 : w4.cell? ⟨w3.heap.size, 3, none⟩ = some (.bool false) := cell_heap X4 rfl
  have of : ∀ o, w4.frozen? ⟨w3.heap.size, o, none⟩ = false := fun o => frozen_of_row w4 _ _ _ _ X4
  have hz4 : w3.heap.size < w4.heap.size := World.block_lt_of_cell? _ _ o0
  have hA4 : Sl 4 encAwd (fun b => W3.heap.size ≤ b) w4 av A := Sl.own encAwd_len hw4 rfl (fun _ h => h)
  obtain ⟨aa, m, ac, rfl, hm, -, -⟩ := hA4.shape
  have HA4 := Lib.hid hA4
  have HM := Lib.hid hm
  have hm1 : m ≤ 60 := by have := HAL.out; omega
  have HB4 := Lib.hid (bup HBX.out hb4)
  have HX4 := Lib.hid X4
  clear hw4 hb4 hA4 X4 HX3 hm
  go_upto_region 6 with fail
  obtain ⟨V4, hV4⟩ : ∃ V, V = w4.setCell ⟨w3.heap.size, 3, none⟩ (.bool true) := ⟨_, rfl⟩
  rw [← hV4]
  have hbV : Below w3.heap.size w4 V4 := by rw [hV4]; exact (Below.refl _ _).setCell (p := ⟨w3.heap.size, 3, none⟩) (Nat.le_refl _) _
  have hzV : V4.heap.size = w4.heap.size := by rw [hV4]; exact World.size_setCell _ _ _
  have Y4 : V4.heap[w3.heap.size]? = some (.cells #[.int .i64 am, .int .i64 le, .int .i64 sh, .bool true] 26 (0, 0)) := by rw [hV4]; exact heap_setCell_same w4 _ 3 _ _ (.bool true) HX4.out
  have hgV : ∀ b, b ≠ w3.heap.size → V4.heap[b]? = w4.heap[b]? := fun b hne => by rw [hV4]; exact Below.heap_setCell w4 _ _ _ hne
  have HAV := Lib.hid ((HA4.out.mono (Q := fun b => W3.heap.size ≤ b) (fun b h _ => h)).block (w' := V4) (by omega) fun b hp hb => hgV b (by omega))
  clear hV4 o0 o1 o2 o3 of HX4 HA4
  obtain ⟨W, hW⟩ : ∃ W, W = V4.alloc (.cells #[.int .i64 C, .int .i64 T, .slice aa m ac] 32 (0, 0)) := ⟨_, rfl⟩
  rw [← hzV]
  rw [← hW]
  have hbW : Below V4.heap.size V4 W := by rw [hW]; exact bal brefl _
  have X5 : W.heap[w3.heap.size]? = some (.cells #[.int .i64 am, .int .i64 le, .int .i64 sh, .bool true] 26 (0, 0)) := (hbW.block _ (by omega)).trans Y4
  have r0 : W.cell? ⟨V4.heap.size, 0, none⟩ = some (.int .i64 C) := by rw [hW]; exact World.cell?_alloc_at _ _ _ _ rfl
  have r1 : W.cell? ⟨V4.heap.size, 1, none⟩ = some (.int .i64 T) := by rw [hW]; exact World.cell?_alloc_at _ _ _ _ rfl
  have r2 : W.cell? ⟨V4.heap.size, 2, none⟩ = some (.slice aa m ac) := by rw [hW]; exact World.cell?_alloc_at _ _ _ _ rfl
  have o0 : W.cell? ⟨w3.heap.size, 0, none⟩ = some (.int .i64 am) := cell_heap X5 rfl
  have o1 : W.cell? ⟨w3.heap.size, 1, none⟩ = some (.int .i64 le) := cell_heap X5 rfl
  have o2 : W.cell? ⟨w3.heap.size, 2, none⟩ = some (.int .i64 sh) := cell_heap X5 rfl
  have o3 : W.cell? ⟨w3.heap.size, 3, none⟩ = some (.bool true) := cell_heap X5 rfl
  have HBW := Lib.hid (show Below w3.heap.size w3 W from (HB4.out.trans hbV).trans (hbW.mono (by omega)))
  have HAW := Lib.hid (HAV.out.below hbW)
  have zw1 : w3.heap.size < W.heap.size := World.block_lt_of_cell? _ _ o0
  have zw2 : V4.heap.size < W.heap.size := World.block_lt_of_cell? _ _ r0
  clear hW hbW X5 Y4 hgV hbV HAV hzV hz4 hz3
  go_wp2_with fail
  refine (KT.out _ HBW.out).mono ?_
  rintro e w6 ⟨av2, rfl, hw6, hb6⟩
  replace r0 := keepB hb6 r0
  replace r1 := keepB hb6 r1
  replace r2 := keepB hb6 r2
  have hA6 : Sl 4 encAwd (fun _ => True) w6 av2 B := Sl.own encAwd_len hw6 rfl (fun _ _ => trivial)
  obtain ⟨ba2, m2, bc2, rfl, hm2, -, -⟩ := hA6.shape
  have em : m2 = m := by have := HYL.out.l; have := HM.out; omega
  subst em
  have HB6 := Lib.hid hA6
  have HA6 := Lib.hid (HAW.out.below hb6)
  have HBW6 := Lib.hid (show Below w3.heap.size w3 w6 from HBW.out.trans (hb6.mono HBW.out.size))
  have zw3 : V4.heap.size < w6.heap.size := World.block_lt_of_cell? _ _ r0
  clear hw6 hb6 hA6 hm2 o0 o1 o2 o3 zw1 zw2 HAW
  go_upto_region 7 with fail
  obtain ⟨W7, hW7⟩ : ∃ W, W = w6.alloc (.cells #[.int .i64 C, .int .i64 T, .slice ba2 m2 bc2] 32 (0, 0)) := ⟨_, rfl⟩
  rw [← hW7]
  have hbW : Below w6.heap.size w6 W7 := by rw [hW7]; exact bal brefl _
  have s0 : W7.cell? ⟨w6.heap.size, 0, none⟩ = some (.int .i64 C) := by rw [hW7]; exact World.cell?_alloc_at _ _ _ _ rfl
  have s1 : W7.cell? ⟨w6.heap.size, 1, none⟩ = some (.int .i64 T) := by rw [hW7]; exact World.cell?_alloc_at _ _ _ _ rfl
  have s2 : W7.cell? ⟨w6.heap.size, 2, none⟩ = some (.slice ba2 m2 bc2) := by rw [hW7]; exact World.cell?_alloc_at _ _ _ _ rfl
  replace r0 := keepB hbW r0
  replace r1 := keepB hbW r1
  replace r2 := keepB hbW r2
  have HA7 := Lib.hid (HA6.out.below hbW)
  have HB7 := Lib.hid (HB6.out.below hbW)
  have HBW7 := Lib.hid (show Below w3.heap.size w3 W7 from HBW6.out.trans (hbW.mono HBW6.out.size))
  clear hW7 hbW HA6 HB6
  have zr : V4.heap.size < W7.heap.size := World.block_lt_of_cell? _ _ r0
  have zs : w6.heap.size < W7.heap.size := World.block_lt_of_cell? _ _ s0
  go_wp2_with fail
  refine (cash_any _ C T _ A _ HA7.out HAL.out HAW1.out).mono ?_
  rintro e w8 ⟨rfl, hb8⟩
  replace r0 := keepB hb8 r0
  replace r1 := keepB hb8 r1
  replace r2 := keepB hb8 r2
  replace s0 := keepB hb8 s0
  replace s1 := keepB hb8 s1
  replace s2 := keepB hb8 s2
  have HA8 := Lib.hid (HA7.out.below hb8)
  have HB8 := Lib.hid (HB7.out.below hb8)
  have HBW8 := Lib.hid (show Below w3.heap.size w3 w8 from HBW7.out.trans (hb8.mono HBW7.out.size))
  clear hb8 zr zs HA7 HB7
  have zr : V4.heap.size < w8.heap.size := World.block_lt_of_cell? _ _ r0
  have zs : w6.heap.size < w8.heap.size := World.block_lt_of_cell? _ _ s0
  go_wp2_with fail
  refine (cash_any _ C T _ B _ HB8.out HBL.out HAW2.out).mono ?_
  rintro e w9 ⟨rfl, hb9⟩
  replace r0 := keepB hb9 r0
  replace r1 := keepB hb9 r1
  replace r2 := keepB hb9 r2
  replace s0 := keepB hb9 s0
  replace s1 := keepB hb9 s1
  replace s2 := keepB hb9 s2
  have HA9 := Lib.hid (HA8.out.below hb9)
  have HB9 := Lib.hid (HB8.out.below hb9)
  have HBW9 := Lib.hid (show Below w3.heap.size w3 w9 from HBW8.out.trans (hb9.mono HBW8.out.size))
  clear hb9 zr zs HA8 HB8
  have zr : V4.heap.size < w9.heap.size := World.block_lt_of_cell? _ _ r0
  have zs : w6.heap.size < w9.heap.size := World.block_lt_of_cell? _ _ s0
  obtain ⟨xa, hxa⟩ : ∃ x, caT A A.length = x := ⟨_, rfl⟩
  obtain ⟨xb, hxb⟩ : ∃ x, caT B B.length = x := ⟨_, rfl⟩
  have hxx : xb ≤ xa := by rw [← hxa, ← hxb, ← HYL.out.l]; exact HYL.out.c _
  rw [hxa, hxb]
  clear hxa hxb
  go_upto_region 11 with fail
  go_wp2
  go_loopw [85] (fun iv wr => ∃ i : Nat, i ≤ m2 ∧ iv = .int .i64 i ∧ Below w9.heap.size w9 wr) (fun iv _ => m2 - (intOf iv).toNat)
  case atStart => exact ⟨0, by omega, rfl, brefl⟩
  case round =>
    obtain ⟨i, hi, rfl, hbr⟩ := hrel
    have zw := hbr.size
    have p2 := keepB hbr r2
    have q2 := keepB hbr s2
    have zp : V4.heap.size < wr.heap.size := World.block_lt_of_cell? _ _ p2
    have zq : w6.heap.size < wr.heap.size := World.block_lt_of_cell? _ _ q2
    by_cases hit : i < m2
    · obtain ⟨bb, off, x0, x1, x2, x3, rfl, -, hbb, hx, k0, k1, k2, k3⟩ := (HA9.out.below hbr).awd hit
      obtain ⟨bb', off', y0, y1, y2, y3, rfl, -, hbb', hy, j0, j1, j2, j3⟩ := (HB9.out.below hbr).awd hit
      have hiz : (i : Int) < (m2 : Int) := by omega
      have hi0 : 0 ≤ (i : Int) := by omega
      obtain ⟨e1, e2⟩ := HYL.out.p i _ _ hx hy
      simp only at e1 e2
      subst e1
      have e3 : ¬ x3 < y3 := by omega
      have e4 : decide (x3 < y3) = false := by simpa using e2
      have HBR := Lib.hid hbr
      clear hx hy hbr k0 k1 j0 j1
      go_upto_region 14 with fail
      go_quiet (fail)
      go_wp2
      go_roundw
      case rel => exact ⟨i + 1, by omega, by go_num, bdrN HBR.out⟩
      case measure => simp [intOf]; omega
    · have HBJ := Lib.hid hbr
      clear hbr
      go_wp2_with fail
      refine (sane32_any _).mono ?_
      rintro e w10 ⟨rfl, hb10⟩
      go_wp2
      go_ret
      exact ⟨rfl, bup (HB3.out.trans ((show Below w3.heap.size w3 w10 from (HBW9.out.trans (HBJ.out.mono HBW9.out.size)).trans (hb10.mono (Nat.le_trans HBW9.out.size HBJ.out.size))).mono HB3.out.size)) (brefl)⟩
end Go.Proofs.Ytenbbmmbpjjjpaa
