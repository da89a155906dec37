/- BuybackOrder: the walk. -/
import Derived.Test.YtkdbdncboljfhaaL38P
namespace Go.Proofs.Ytkdbdncboljfhaa
open Go.RowKit
set_option linter.unusedVariables false
set_option linter.unusedSimpArgs false
theorem wzN (z : Int) (h : -1000000 ≤ z ∧ z ≤ 1000000) : wrap64 z = z ∧ IntKind.i64.wrap z = z := ⟨IntWalk.wrap64_in _ (by omega), IntWalk.i64_in _ (by omega)⟩
theorem measW (n k : Nat) (h : k < n) (h9 : n ≤ 9) : n - (intOf (.int .i64 (wrap64 ((k : Int) + 1)))).toNat < n - (intOf (.int .i64 (k : Int))).toNat := by rw [(wzN _ (by omega)).1]; simp [intOf]; omega
set_option maxHeartbeats 16000000 in
set_option maxRecDepth 100000 in
theorem border_walk (a0 : Option Addr) (len0 cap0 : Nat) (t : Int) (t0 : 0 ≤ t) (t1 : t ≤ 255) (w : World) (h1 : len0 ≤ cap0) (h2 : cap0 ≤ maxLen) (hz : len0 = 0 ∨ ∃ b off, a0 = some ⟨b, off, none⟩ ∧ ∀ i, i < len0 → ∃ z : Int, w.cell? ⟨b, off + i, none⟩ = some (.int .i64 z)) :
    Calls Try.prog 3 #[.slice a0 len0 cap0, .int .u8 t] w fun e w' => e = .returned (.bool true) ∧ Below w.heap.size w w' := by
  go_enter Try.func3, Try.ntmps3
  go_wp2_with fail
  refine (new_any a0 len0 cap0 w h1 h2 hz).mono ?_
  rintro e w1 ⟨sb, rfl, hsb, hS1, hB1⟩
  clear hz
  have hsb1 := srcOk_lt hS1
  have HS1 := Lib.hid hS1
  have HB1 := Lib.hid hB1
  clear hS1 hB1
  go_wp2_with fail
  refine (stenders_any sb 8 _ HS1.out (by decide) (by decide)).mono ?_
  rintro e w2 ⟨tv, L, rfl, hw2, hL, hS2, hG2⟩
  have hl2 : Sl 4 encTdr (fun b => w1.heap.size ≤ b) w2 tv L := Sl.own encTdr_len hw2 rfl (fun _ h => h)
  obtain ⟨ta, n, tc, rfl, hn, -, -⟩ := hl2.shape
  have hn8 : n ≤ 8 := by have := hL.n; omega
  have HS2 := Lib.hid hS2
  have HG2 := Lib.hid hG2
  have HL2 := Lib.hid hl2
  have HN := Lib.hid hn
  have HTD := Lib.hid hL
  obtain ⟨tn, rfl⟩ : ∃ q : Nat, t = (q : Int) := ⟨t.toNat, by omega⟩
  have HOT := Lib.hid (fun k (hk : k < L.length) => otL_at (L := L) (t := tn) hk)
  have HOL := Lib.hid (otL_len L tn)
  have HPM := Lib.hid (otL_perm L tn)
  obtain ⟨O, hO⟩ : ∃ x, otL L tn = x := ⟨_, rfl⟩
  rw [hO] at HOT HOL HPM
  have hsb2 := srcOk_lt hS2
  clear hw2 hL hS2 hG2 hl2 hn hO
  obtain ⟨i1, hi, hz0, hz1, hz2⟩ := info_parts infoTdr
  have HU := Lib.hid (wzN (tn : Int) (by omega))
  have HT1 := Lib.hid t1
  clear t0 t1
  go_wp2
  go_loopw [7, 21] (fun ov iv wr => ∃ k : Nat, k ≤ n ∧ iv = .int .i64 k ∧ wr.ownsRow w2.heap.size 28 4 ov (O.take k).length (flatE encTdr (O.take k)) ∧ Below w2.heap.size w2 wr) (fun _ iv _ => n - (intOf iv).toNat)
  case atStart => exact ⟨0, by omega, rfl, World.ownsRow_nil _ _ _ _, brefl⟩
  case round =>
    obtain ⟨k, hk, rfl, hown, hbr⟩ := hrel
    have zr := hbr.size
    by_cases hlt : k < n
    · have hN := HN.out
      have hmod : (k + tn) % n < n := Nat.mod_lt _ (by omega)
      obtain ⟨J, hJ⟩ : ∃ J, n - 1 - (k + tn) % n = J := ⟨_, rfl⟩
      have hJn : J < n := by omega
      obtain ⟨bb, off, x0, x1, x2, x3, rfl, -, hbb, hx, k0, k1, k2, k3⟩ := (HL2.out.below hbr).tdr hJn
      have hOk : O[k]? = some ⟨x0, x1, x2, x3⟩ := by rw [HOT.out k (by omega), hN, hJ]; exact hx
      have HTK := Lib.hid (take_snocZ hOk)
      have htl : (O.take k).length = k := by rw [List.length_take, HOL.out]; omega
      have hkz : (k : Int) < (n : Int) := by omega
      have HKK := Lib.hid (wzN ((k : Int) + 1) (by omega))
      obtain ⟨R, hR⟩ : ∃ R : Int, (((k + tn) % n : Nat) : Int) = R := ⟨_, rfl⟩
      have hrm : Int.tmod ((k : Int) + (tn : Int)) (n : Int) = R := by rw [Int.tmod_eq_emod_of_nonneg (by omega), ← hR, Int.natCast_emod]; rfl
      have hT1 := HT1.out
      have HW1 := Lib.hid (wzN ((k : Int) + (tn : Int)) (by omega))
      have HW2 := Lib.hid (wzN ((n : Int) - 1) (by omega))
      have eJ : (n : Int) - 1 - R = (J : Int) := by rw [← hR]; omega
      have HW3 := Lib.hid (wzN ((n : Int) - 1 - R) (by omega))
      rw [eJ] at HW3
      have EJ := Lib.hid eJ
      have hR0 : 0 ≤ R ∧ R < n := by rw [← hR]; omega
      have HW4 := Lib.hid (wzN R (by omega))
      have hJz : (J : Int) < (n : Int) := by omega
      have hJ0 : 0 ≤ (J : Int) := by omega
      have hn0 : ¬ (n : Int) = 0 := by omega
      have HOW := Lib.hid hown
      have HBR := Lib.hid hbr
      have htl2 := Lib.hid htl
      have q1 : (O.take k).length + 1 ≤ maxLen := by rw [htl]; unfold maxLen; omega
      have q2 : ((O.take k).length + 1) * 32 ≤ 140737488355328 := by rw [htl]; omega
      clear hx hOk hown hbr hN hJ hmod hR eJ htl
      obtain ⟨hu8, hu9⟩ := HU.out
      obtain ⟨hw1, hi1⟩ := HW1.out
      obtain ⟨hw2, hi2⟩ := HW2.out
      have hw3 : wrap64 ((n : Int) - 1 - R) = (J : Int) := by rw [EJ.out]; exact HW3.out.1
      have hi3 : IntKind.i64.wrap ((n : Int) - 1 - R) = (J : Int) := by rw [EJ.out]; exact HW3.out.2
      obtain ⟨hw4, hi4⟩ := HW4.out
      go_wp2_with (at_builtin; go_must (refine wpList_append_own _ rfl _ _ 25 rfl w2.heap.size 28 i1 (.agg #[.int .i64 0, .int .i64 0, .int .i64 0, .int .i64 0]) 4 32 Try.underlying25 hi hz0 hz1 hz2 rfl (by decide) _ _ _ rfl (HOW.out.alloc _) ⟨_, 0, none⟩ 1 1 (encTdr ⟨x0, x1, x2, x3⟩) rfl rfl (newsTdr _ _ (by simp) x0 x1 x2 x3) (oneTdr _) q1 q2 (Nat.le_trans zr (by simp)) ?_); intro v' w9 hown' hgrow _)
      go_roundw
      case rel =>
        clear hu8 hu9 hw1 hi1 hw2 hi2 hw3 hi3 hw4 hi4 hrm
        have hkq := htl2.out
        have hb9 : Below w2.heap.size wr w9 := ((Below.refl _ wr).alloc (by omega) _).grown hgrow (by simp; omega) (fun q hq => (HOW.out.lt q hq).1)
        exact ⟨k + 1, by omega, by rw [HKK.out.1]; rfl, by rw [HTK.out, flatE_snoc, List.length_append]; exact hown', HBR.out.trans hb9⟩
      case measure =>
        clear hu8 hu9 hw1 hi1 hw2 hi2 hw3 hi3 hw4 hi4 hrm q1 q2
        exact measW n k hlt (by omega)
    · have hkn : k = n := by omega
      subst hkn
      have hO : O.take k = O := by rw [List.take_of_length_le]; rw [HOL.out, HN.out]; exact Nat.le_refl _
      rw [hO] at hown
      have hOS : Sl 4 encTdr (fun b => w2.heap.size ≤ b) wr u7 O := Sl.own encTdr_len hown rfl (fun _ h => h)
      obtain ⟨oa, oc, rfl⟩ := own_sl hown
      have HOS := Lib.hid hOS
      have HSR := Lib.hid (srcOk_below HS2.out hbr hsb2)
      have HLR := Lib.hid (HL2.out.below hbr)
      have HBR := Lib.hid (bup (HB1.out.trans (below_of_grown HG2.out hsb HB1.out.size)) hbr)
      obtain ⟨wo, hwo⟩ : ∃ u, u = wr := ⟨wr, rfl⟩
      subst hwo
      clear hown hbr hO hOS zr hlt hk
      go_wp2_with fail
      refine (range_any sb 1 12 _ HSR.out (by decide) (by decide) (by decide)).mono ?_
      rintro e w3 ⟨q0, hq0, rfl, hS3, hG3⟩
      have HQW := Lib.hid (show wrap64 (1000 * q0) = 1000 * q0 ∧ IntKind.i64.wrap (1000 * q0) = 1000 * q0 from ⟨IntWalk.wrap64_in _ (by omega), IntWalk.i64_in _ (by omega)⟩)
      have HS3 := Lib.hid hS3
      have HG3 := Lib.hid hG3
      clear hS3 hG3
      obtain ⟨hqw, hqi⟩ := HQW.out
      go_wp2_with fail
      clear hqw hqi
      refine (pick_lit sb [98500, 100000, 101000] _ _ _ _ HS3.out (by decide) (by decide) rfl rfl rfl).mono ?_
      rintro e w4 ⟨most, hm, rfl, hS4, hG4⟩
      have hm2 : 1 ≤ most ∧ most ≤ 200000 := by simp only [List.mem_cons, List.not_mem_nil, or_false] at hm; omega
      obtain ⟨am, ham⟩ : ∃ am, 1000 * q0 = am := ⟨_, rfl⟩
      have ha : 1000 ≤ am ∧ am ≤ 12000 ∧ am % 1000 = 0 := by omega
      have HI := Lib.hid (HTD.out.into (by decide) (n := am) (most := most) ha.1 (by omega) ha.2.2 hm2.1 hm2.2)
      have HL4 := Lib.hid ((HLR.out.inRow HG3.out (fun b hb => by omega)).inRow hG4 (fun b hb => by omega))
      have HO4 := Lib.hid ((HOS.out.inRow HG3.out (fun b hb => by omega)).inRow hG4 (fun b hb => by omega))
      have HB4 := Lib.hid (HBR.out.trans (below_of_grown (grownBy_trans HG3.out hG4) hsb HBR.out.size))
      have HIO := Lib.hid (HI.out.perm HPM.out)
      obtain ⟨pc, ps, pa⟩ := bk_perm HIO.out.k HPM.out am most
      have KH := Lib.hid (HI.out.hold _ _ _ HL4.out)
      have KO := Lib.hid (fun (U : World) (v : Value) (P : Nat → Prop) (hS : Sl 4 encTdr P U v O) => HIO.out.hold P v U hS)
      rw [pc, ps, pa] at KO
      have hAl : (bkA L am most).length ≤ 1000 := by have := bkA_len L am most; have := HN.out; omega
      obtain ⟨C, hC⟩ : ∃ x, bkC L am most = x := ⟨_, rfl⟩
      obtain ⟨T, hT⟩ : ∃ x, bkS L am most = x := ⟨_, rfl⟩
      obtain ⟨A, hA⟩ : ∃ x, bkA L am most = x := ⟨_, rfl⟩
      rw [hC, hT, hA] at KH KO
      rw [hA] at hAl
      have HAL := Lib.hid hAl
      rw [ham]
      clear hC hT hA HI HIO HTD hS4 hG4 hAl hm HS1 HS2 HS3 HG2 HG3 HL2 HQW ham hq0 pc ps pa HLR HOS HSR
      go_wp2_with fail
      refine KH.out.mono ?_
      rintro e w5 ⟨av, rfl, hw5, hb5⟩
      have hA5 : Sl 4 encAwd (fun _ => True) w5 av A := Sl.own encAwd_len hw5 rfl (fun _ _ => trivial)
      obtain ⟨aa, m, ac, rfl, -, -, -⟩ := hA5.shape
      have HA5 := Lib.hid hA5
      have HO5 := Lib.hid (HO4.out.below hb5)
      have HB5 := Lib.hid (bup HB4.out hb5)
      clear hw5 hb5 hA5 KH HL4 HO4
      go_upto_region 11 with fail
      obtain ⟨W, hW⟩ : ∃ W, W = w5.alloc (.cells #[.int .i64 C, .int .i64 T, .slice aa m ac] 33 (0, 0)) := ⟨_, rfl⟩
      rw [← hW]
      have hbW : Below w5.heap.size w5 W := by rw [hW]; exact bal brefl _
      have r0 : W.cell? ⟨w5.heap.size, 0, none⟩ = some (.int .i64 C) := by rw [hW]; exact World.cell?_alloc_at _ _ _ _ rfl
      have r1 : W.cell? ⟨w5.heap.size, 1, none⟩ = some (.int .i64 T) := by rw [hW]; exact World.cell?_alloc_at _ _ _ _ rfl
      have r2 : W.cell? ⟨w5.heap.size, 2, none⟩ = some (.slice aa m ac) := by rw [hW]; exact World.cell?_alloc_at _ _ _ _ rfl
      have HAW := Lib.hid (HA5.out.below hbW)
      have HOW := Lib.hid (HO5.out.below hbW)
      have HBW := Lib.hid (bup HB5.out hbW)
      clear hW hbW HA5 HO5
      have zr : w5.heap.size < W.heap.size := World.block_lt_of_cell? _ _ r0
      go_wp2_with fail
      refine (KO.out _ _ _ HOW.out).mono ?_
      rintro e w6 ⟨av2, rfl, hw6, hb6⟩
      replace r0 := keepB hb6 r0
      replace r1 := keepB hb6 r1
      replace r2 := keepB hb6 r2
      have hA6 : Sl 4 encAwd (fun _ => True) w6 av2 A := Sl.own encAwd_len hw6 rfl (fun _ _ => trivial)
      obtain ⟨aa2, m2, ac2, rfl, -, -, -⟩ := hA6.shape
      have HA6 := Lib.hid hA6
      have HAW6 := Lib.hid (HAW.out.below hb6)
      have HB6 := Lib.hid (bup HBW.out hb6)
      clear hw6 hb6 hA6 zr HAW HOW
      go_upto_region 12 with fail
      obtain ⟨U, hU⟩ : ∃ U, U = w6.alloc (.cells #[.int .i64 C, .int .i64 T, .slice aa2 m2 ac2] 33 (0, 0)) := ⟨_, rfl⟩
      rw [← hU]
      have hbU : Below w6.heap.size w6 U := by rw [hU]; exact bal brefl _
      have s0 : U.cell? ⟨w6.heap.size, 0, none⟩ = some (.int .i64 C) := by rw [hU]; exact World.cell?_alloc_at _ _ _ _ rfl
      have s1 : U.cell? ⟨w6.heap.size, 1, none⟩ = some (.int .i64 T) := by rw [hU]; exact World.cell?_alloc_at _ _ _ _ rfl
      have s2 : U.cell? ⟨w6.heap.size, 2, none⟩ = some (.slice aa2 m2 ac2) := by rw [hU]; exact World.cell?_alloc_at _ _ _ _ rfl
      replace r0 := keepB hbU r0
      replace r1 := keepB hbU r1
      replace r2 := keepB hbU r2
      have HA7 := Lib.hid (HA6.out.below hbU)
      have HAW7 := Lib.hid (HAW6.out.below hbU)
      have HB7 := Lib.hid (bup HB6.out hbU)
      clear hU hbU HA6 HAW6
      have zr : w5.heap.size < U.heap.size := World.block_lt_of_cell? _ _ r0
      have zs : w6.heap.size < U.heap.size := World.block_lt_of_cell? _ _ s0
      go_wp2_with fail
      refine (rsame_eq _ _ C T _ _ A _ HAW7.out HA7.out HAL.out).mono ?_
      rintro e w7 ⟨rfl, hb7⟩
      have HB8 := Lib.hid (bup HB7.out hb7)
      clear hb7 zr zs
      go_wp2_with fail
      refine (sane38_any _).mono ?_
      rintro e w9 ⟨rfl, hb9⟩
      go_wp2
      go_ret
      exact ⟨rfl, bup HB8.out hb9⟩
end Go.Proofs.Ytkdbdncboljfhaa
