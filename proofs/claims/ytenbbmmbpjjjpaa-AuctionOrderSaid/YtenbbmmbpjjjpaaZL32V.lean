/- AuctionOrder: the walk. -/
import Derived.Test.YtenbbmmbpjjjpaaZAucV
import Derived.Test.YtenbbmmbpjjjpaaZL32Q
namespace Go.Proofs.Ytenbbmmbpjjjpaa
open Go.RowKit
set_option linter.unusedVariables false
set_option linter.unusedSimpArgs false
theorem wzN (z : Int) (h : -1000000 ≤ z ∧ z ≤ 1000000) : wrap64 z = z ∧ IntKind.i64.wrap z = z := ⟨IntWalk.wrap64_in _ (by omega), IntWalk.i64_in _ (by omega)⟩
theorem measW (n k : Nat) (h : k < n) (h9 : n ≤ 9) : n - (intOf (.int .i64 (wrap64 ((k : Int) + 1)))).toNat < n - (intOf (.int .i64 (k : Int))).toNat := by rw [(wzN _ (by omega)).1]; simp [intOf]; omega
set_option maxHeartbeats 16000000 in
set_option maxRecDepth 100000 in
theorem order_walk (a0 : Option Addr) (len0 cap0 : Nat) (t : Int) (t0 : 0 ≤ t) (t1 : t ≤ 255) (w : World) (h1 : len0 ≤ cap0) (h2 : cap0 ≤ maxLen) (hz : len0 = 0 ∨ ∃ b off, a0 = some ⟨b, off, none⟩ ∧ ∀ i, i < len0 → ∃ z : Int, w.cell? ⟨b, off + i, none⟩ = some (.int .i64 z)) :
    Calls Try.prog 7 #[.slice a0 len0 cap0, .int .u8 t] w fun e w' => e = .returned (.bool true) ∧ Below w.heap.size w w' := by
  go_enter Try.func7, Try.ntmps7
  go_wp2_with fail
  refine (new_any a0 len0 cap0 w h1 h2 hz).mono ?_
  rintro e w1 ⟨sb, rfl, hsb, hS1, hB1⟩
  clear hz
  have HS1 := Lib.hid hS1
  have HB1 := Lib.hid hB1
  clear hS1 hB1
  go_wp2_with fail
  refine (soffer_any sb _ HS1.out).mono ?_
  rintro e w2 ⟨am, le, sh, un, rfl, ho, hS2, hG2⟩
  have HS2 := Lib.hid hS2
  have HG2 := Lib.hid hG2
  clear hS2 hG2
  go_wp2_with fail
  refine (sbids_any sb 9 _ HS2.out (by decide) (by decide)).mono ?_
  rintro e w3 ⟨bv, L, rfl, hw3, hL, hS3, hG3⟩
  have HI := Lib.hid (hL.into (by decide) ho)
  have hb3 := Sl.own (P := fun _ => True) encBid_len hw3 rfl (fun _ _ => trivial)
  obtain ⟨ba, n, bc, rfl, hn, -, -⟩ := hb3.shape
  have hn9 : n ≤ 9 := by have := hL.n; omega
  have HB3 := Lib.hid (HB1.out.trans (below_of_grown (grownBy_trans HG2.out hG3) hsb HB1.out.size))
  have HL3 := Lib.hid hb3
  obtain ⟨tn, rfl⟩ : ∃ q : Nat, t = (q : Int) := ⟨t.toNat, by omega⟩
  have hP := otL_perm L tn
  obtain ⟨pc, ps, pa⟩ := hd_perm (keysB_perm hP HI.out.k) hP am le sh un
  have HIO := Lib.hid (HI.out.perm hP)
  have KH := Lib.hid (fun (U : World) (hU : Below w3.heap.size w3 U) => hold_any (fun _ => True) am le sh un _ L U (HL3.out.below hU) HI.out.ok HI.out.k HI.out.n HI.out.o HI.out.p)
  have KO := Lib.hid (fun (U : World) (v : Value) (hS : Sl 5 encBid (fun _ => True) U v (otL L tn)) => hold_any (fun _ => True) am le sh un _ (otL L tn) U hS HIO.out.ok HIO.out.k HIO.out.n HIO.out.o HIO.out.p)
  rw [pc, ps, pa] at KO
  have hAl : (hdA am le sh un L).length ≤ 1000 := by have := awT_len le un (srB L) (hdG am le sh (srB L)) (srB L).length; have := HI.out.S60; unfold hdA; omega
  have HOT := Lib.hid (fun k (hk : k < L.length) => otL_at (L := L) (t := tn) hk)
  have HOL := Lib.hid (otL_len L tn)
  obtain ⟨O, hO⟩ : ∃ x, otL L tn = x := ⟨_, rfl⟩
  rw [hO] at KO HOT HOL
  obtain ⟨C, hC⟩ : ∃ x, hdC am le sh L = x := ⟨_, rfl⟩
  obtain ⟨T, hT⟩ : ∃ x, hdS am le sh L = x := ⟨_, rfl⟩
  obtain ⟨A, hA⟩ : ∃ x, hdA am le sh un L = x := ⟨_, rfl⟩
  rw [hC, hT, hA] at KH KO
  rw [hA] at hAl
  clear hw3 hS3 hG3 hb3 hL hP pc ps pa hO hC hT hA HIO HI
  have HO := Lib.hid ho
  have HN := Lib.hid hn
  have HAL := Lib.hid hAl
  clear ho hn hAl
  obtain ⟨i1, hi, hz0, hz1, hz2⟩ := info_parts infoBid
  go_upto_region 4 with fail
  obtain ⟨W, hW⟩ : ∃ W, W = w3.alloc (.cells #[.int .i64 am, .int .i64 le, .int .i64 sh, .bool un] 26 (0, 0)) := ⟨_, rfl⟩
  rw [← hW]
  have hbW : Below w3.heap.size w3 W := by rw [hW]; exact bal brefl _
  have o0 : W.cell? ⟨w3.heap.size, 0, none⟩ = some (.int .i64 am) := by rw [hW]; exact World.cell?_alloc_at _ _ _ _ rfl
  have o1 : W.cell? ⟨w3.heap.size, 1, none⟩ = some (.int .i64 le) := by rw [hW]; exact World.cell?_alloc_at _ _ _ _ rfl
  have o2 : W.cell? ⟨w3.heap.size, 2, none⟩ = some (.int .i64 sh) := by rw [hW]; exact World.cell?_alloc_at _ _ _ _ rfl
  have o3 : W.cell? ⟨w3.heap.size, 3, none⟩ = some (.bool un) := by rw [hW]; exact World.cell?_alloc_at _ _ _ _ rfl
  have HLW := Lib.hid (HL3.out.below hbW)
  have HBW := Lib.hid hbW
  clear hW hbW
  have HU := Lib.hid (wzN (tn : Int) (by omega))
  have HT0 := Lib.hid t0
  have HT1 := Lib.hid t1
  clear t0 t1
  go_wp2
  go_loopw [8, 22] (fun ov iv wr => ∃ k : Nat, k ≤ n ∧ iv = .int .i64 k ∧ wr.ownsRow W.heap.size 37 5 ov (O.take k).length (flatE encBid (O.take k)) ∧ Below W.heap.size W wr) (fun _ iv _ => n - (intOf iv).toNat)
  case atStart => exact ⟨0, by omega, rfl, World.ownsRow_nil _ _ _ _, brefl⟩
  case round =>
    obtain ⟨k, hk, rfl, hown, hbr⟩ := hrel
    have zr := hbr.size
    by_cases hlt : k < n
    · have hN := HN.out
      have hmod : (k + tn) % n < n := Nat.mod_lt _ (by omega)
      obtain ⟨J, hJ⟩ : ∃ J, n - 1 - (k + tn) % n = J := ⟨_, rfl⟩
      have hJn : J < n := by omega
      obtain ⟨bb, off, x0, x1, x2, x3, x4, rfl, -, hbb, hx, k0, k1, k2, k3, k4⟩ := (HLW.out.below hbr).bid hJn
      have hOk : O[k]? = some ⟨x0, x1, x2, x3, x4⟩ := by rw [HOT.out k (by omega), hN, hJ]; exact hx
      have HTK := Lib.hid (take_snocZ hOk)
      have htl : (O.take k).length = k := by rw [List.length_take, HOL.out]; omega
      have hkz : (k : Int) < (n : Int) := by omega
      have HKK := Lib.hid (wzN ((k : Int) + 1) (by omega))
      obtain ⟨R, hR⟩ : ∃ R : Int, (((k + tn) % n : Nat) : Int) = R := ⟨_, rfl⟩
      have hrm : Int.tmod ((k : Int) + (tn : Int)) (n : Int) = R := by rw [Int.tmod_eq_emod_of_nonneg (by omega), ← hR, Int.natCast_emod]; rfl
      have hT1 := HT1.out
      have HW1 := Lib.hid (wzN ((k : Int) + (tn : Int)) (by omega))
      have HW2 := Lib.hid (wzN ((n : Int) - 1) (by omega))
      have eJ : (n : Int) - 1 - R = (J : Int) := by rw [← hR]; omega
      have HW3 := Lib.hid (wzN ((n : Int) - 1 - R) (by omega))
      rw [eJ] at HW3
      have EJ := Lib.hid eJ
      have hR0 : 0 ≤ R ∧ R < n := by rw [← hR]; omega
      have HW4 := Lib.hid (wzN R (by omega))
      have hJz : (J : Int) < (n : Int) := by omega
      have hJ0 : 0 ≤ (J : Int) := by omega
      have hn0 : ¬ (n : Int) = 0 := by omega
      have HOW := Lib.hid hown
      have HBR := Lib.hid hbr
      have htl2 := Lib.hid htl
      have q1 : (O.take k).length + 1 ≤ maxLen := by rw [htl]; unfold maxLen; omega
      have q2 : ((O.take k).length + 1) * 40 ≤ 140737488355328 := by rw [htl]; omega
      clear hx hOk hown hbr hN hJ hmod hR eJ htl
      obtain ⟨hu8, hu9⟩ := HU.out
      obtain ⟨hw1, hi1⟩ := HW1.out
      obtain ⟨hw2, hi2⟩ := HW2.out
      have hw3 : wrap64 ((n : Int) - 1 - R) = (J : Int) := by rw [EJ.out]; exact HW3.out.1
      have hi3 : IntKind.i64.wrap ((n : Int) - 1 - R) = (J : Int) := by rw [EJ.out]; exact HW3.out.2
      obtain ⟨hw4, hi4⟩ := HW4.out
      go_wp2_with (at_builtin; go_must (refine wpList_append_own _ rfl _ _ 28 rfl W.heap.size 37 i1 (.agg #[.int .i64 0, .int .i64 0, .int .i64 0, .int .i64 0, .bool false]) 5 40 Try.underlying28 hi hz0 hz1 hz2 rfl (by decide) _ _ _ rfl (HOW.out.alloc _) ⟨_, 0, none⟩ 1 1 (encBid ⟨x0, x1, x2, x3, x4⟩) rfl rfl (newsBid _ _ (by simp) x0 x1 x2 x3 x4) (oneBid _) q1 q2 (Nat.le_trans zr (by simp)) ?_); intro v' w9 hown' hgrow _)
      go_roundw
      case rel =>
        clear hu8 hu9 hw1 hi1 hw2 hi2 hw3 hi3 hw4 hi4 hrm
        have hkq := htl2.out
        have hb9 : Below W.heap.size wr w9 := ((Below.refl _ wr).alloc (by omega) _).grown hgrow (by simp; omega) (fun q hq => (HOW.out.lt q hq).1)
        exact ⟨k + 1, by omega, by rw [HKK.out.1]; rfl, by rw [HTK.out, flatE_snoc, List.length_append]; exact hown', HBR.out.trans hb9⟩
      case measure =>
        clear hu8 hu9 hw1 hi1 hw2 hi2 hw3 hi3 hw4 hi4 hrm q1 q2
        exact measW n k hlt hn9
    · have hkn : k = n := by omega
      subst hkn
      have hO : O.take k = O := by rw [List.take_of_length_le]; rw [HOL.out, HN.out]; exact Nat.le_refl _
      rw [hO] at hown
      have HOS := Lib.hid (show Sl 5 encBid (fun _ => True) wr u8 O from Sl.own encBid_len hown rfl (fun _ _ => trivial))
      have HBR := Lib.hid (show Below w3.heap.size w3 wr from HBW.out.trans (hbr.mono HBW.out.size))
      replace o0 := keepB hbr o0
      replace o1 := keepB hbr o1
      replace o2 := keepB hbr o2
      replace o3 := keepB hbr o3
      have zo : w3.heap.size < wr.heap.size := World.block_lt_of_cell? _ _ o0
      obtain ⟨oa, oc, rfl⟩ := own_sl hown
      clear hown hbr hO zr hlt hk
      go_wp2_with fail
      refine (KH.out _ HBR.out).mono ?_
      rintro e w4 ⟨av, rfl, hw4, hb4⟩
      replace o0 := keepB hb4 o0
      replace o1 := keepB hb4 o1
      replace o2 := keepB hb4 o2
      replace o3 := keepB hb4 o3
      have hA4 : Sl 4 encAwd (fun _ => True) w4 av A := Sl.own encAwd_len hw4 rfl (fun _ _ => trivial)
      obtain ⟨aa, m, ac, rfl, hm, -, -⟩ := hA4.shape
      have HA4 := Lib.hid hA4
      have HM := Lib.hid hm
      have HOS4 := Lib.hid (HOS.out.below hb4)
      have HB4 := Lib.hid (HBR.out.trans (hb4.mono HBR.out.size))
      clear hw4 hb4 hA4 hm zo HOS
      go_upto_region 10 with fail
      obtain ⟨V, hV⟩ : ∃ V, V = w4.alloc (.cells #[.int .i64 C, .int .i64 T, .slice aa m ac] 32 (0, 0)) := ⟨_, rfl⟩
      rw [← hV]
      have hbV : Below w4.heap.size w4 V := by rw [hV]; exact bal brefl _
      have r0 : V.cell? ⟨w4.heap.size, 0, none⟩ = some (.int .i64 C) := by rw [hV]; exact World.cell?_alloc_at _ _ _ _ rfl
      have r1 : V.cell? ⟨w4.heap.size, 1, none⟩ = some (.int .i64 T) := by rw [hV]; exact World.cell?_alloc_at _ _ _ _ rfl
      have r2 : V.cell? ⟨w4.heap.size, 2, none⟩ = some (.slice aa m ac) := by rw [hV]; exact World.cell?_alloc_at _ _ _ _ rfl
      replace o0 := keepB hbV o0
      replace o1 := keepB hbV o1
      replace o2 := keepB hbV o2
      replace o3 := keepB hbV o3
      have HAV := Lib.hid (HA4.out.below hbV)
      have HOSV := Lib.hid (HOS4.out.below hbV)
      have HBV := Lib.hid (HB4.out.trans (hbV.mono HB4.out.size))
      clear hV hbV HA4 HOS4
      have zo : w3.heap.size < V.heap.size := World.block_lt_of_cell? _ _ o0
      have zr : w4.heap.size < V.heap.size := World.block_lt_of_cell? _ _ r0
      go_wp2_with fail
      refine (KO.out _ _ HOSV.out).mono ?_
      rintro e w5 ⟨av2, rfl, hw5, hb5⟩
      replace o0 := keepB hb5 o0
      replace o1 := keepB hb5 o1
      replace o2 := keepB hb5 o2
      replace o3 := keepB hb5 o3
      replace r0 := keepB hb5 r0
      replace r1 := keepB hb5 r1
      replace r2 := keepB hb5 r2
      have hA5 : Sl 4 encAwd (fun _ => True) w5 av2 A := Sl.own encAwd_len hw5 rfl (fun _ _ => trivial)
      obtain ⟨aa2, m2, ac2, rfl, hm2, -, -⟩ := hA5.shape
      have HA5 := Lib.hid hA5
      have HAV5 := Lib.hid (HAV.out.below hb5)
      have HOS5 := Lib.hid (HOSV.out.below hb5)
      have HB5 := Lib.hid (HBV.out.trans (hb5.mono HBV.out.size))
      clear hw5 hb5 hA5 hm2 zo zr HAV HOSV
      go_upto_region 11 with fail
      obtain ⟨U, hU⟩ : ∃ U, U = w5.alloc (.cells #[.int .i64 C, .int .i64 T, .slice aa2 m2 ac2] 32 (0, 0)) := ⟨_, rfl⟩
      rw [← hU]
      have hbU : Below w5.heap.size w5 U := by rw [hU]; exact bal brefl _
      have s0 : U.cell? ⟨w5.heap.size, 0, none⟩ = some (.int .i64 C) := by rw [hU]; exact World.cell?_alloc_at _ _ _ _ rfl
      have s1 : U.cell? ⟨w5.heap.size, 1, none⟩ = some (.int .i64 T) := by rw [hU]; exact World.cell?_alloc_at _ _ _ _ rfl
      have s2 : U.cell? ⟨w5.heap.size, 2, none⟩ = some (.slice aa2 m2 ac2) := by rw [hU]; exact World.cell?_alloc_at _ _ _ _ rfl
      replace o0 := keepB hbU o0
      replace o1 := keepB hbU o1
      replace o2 := keepB hbU o2
      replace o3 := keepB hbU o3
      replace r0 := keepB hbU r0
      replace r1 := keepB hbU r1
      replace r2 := keepB hbU r2
      have HA6 := Lib.hid (HA5.out.below hbU)
      have HAV6 := Lib.hid (HAV5.out.below hbU)
      have HOS6 := Lib.hid (HOS5.out.below hbU)
      have HB6 := Lib.hid (HB5.out.trans (hbU.mono HB5.out.size))
      clear hU hbU HA5 HAV5 HOS5
      have zo : w3.heap.size < U.heap.size := World.block_lt_of_cell? _ _ o0
      have zr : w4.heap.size < U.heap.size := World.block_lt_of_cell? _ _ r0
      have zs : w5.heap.size < U.heap.size := World.block_lt_of_cell? _ _ s0
      go_wp2_with fail
      refine (rsame_eq _ _ C T _ _ A _ HAV6.out HA6.out HAL.out).mono ?_
      rintro e w7 ⟨rfl, hb7⟩
      replace o0 := keepB hb7 o0
      replace o1 := keepB hb7 o1
      replace o2 := keepB hb7 o2
      replace o3 := keepB hb7 o3
      replace r0 := keepB hb7 r0
      replace r1 := keepB hb7 r1
      replace r2 := keepB hb7 r2
      have HAV7 := Lib.hid (HAV6.out.below hb7)
      have HOS7 := Lib.hid (HOS6.out.below hb7)
      have HB7 := Lib.hid (HB6.out.trans (hb7.mono HB6.out.size))
      clear zo zr zs s0 s1 s2 hb7 HA6 HAV6 HOS6
      have zo : w3.heap.size < w7.heap.size := World.block_lt_of_cell? _ _ o0
      have zr : w4.heap.size < w7.heap.size := World.block_lt_of_cell? _ _ r0
      go_wp2_with fail
      refine (acheck_eq _ am le sh C T un oa O.length oc _ A _ HAV7.out HAL.out (fun Y hY => KO.out Y _ (HOS7.out.below hY))).mono ?_
      rintro e w8 ⟨rfl, hb8⟩
      have HB8 := Lib.hid (HB7.out.trans (hb8.mono HB7.out.size))
      clear hb8 zo zr
      go_wp2_with fail
      refine (sane32_any _).mono ?_
      rintro e w9 ⟨rfl, hb9⟩
      go_wp2
      go_ret
      exact ⟨rfl, bup (HB3.out.trans ((show Below w3.heap.size w3 w9 from HB8.out.trans (hb9.mono HB8.out.size)).mono HB3.out.size)) brefl⟩
end Go.Proofs.Ytenbbmmbpjjjpaa
