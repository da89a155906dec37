/- CouponLife. -/
import Derived.Test.YtkbkohkhpmpddaaL34Days
import Derived.Test.YtkbkohkhpmpddaaL34Accr
namespace Go.Proofs.Ytkbkohkhpmpddaa
open Go.RowKit
set_option linter.unusedVariables false

section
variable {id un is ma ra ev a : Int}
theorem life_sum (hs : SecOk id un is ma ra ev) (a0 : 0 ≤ a) (a1 : a ≤ 65535) {N : Nat} (hN : dayN id un is ma ra ev = N) {n : Int} (hn : cpN id un is ma ra ev a = n) :
    0 ≤ n ∧ n ≤ 20000 ∧ N ≤ 600 ∧ 0 ≤ n * N ∧ n * N ≤ 12000000 ∧ 0 ≤ a * ra ∧ a * ra ≤ 1310700000 ∧ 0 ≤ a * ra * (ma - is) ∧ a * ra * (ma - is) ≤ 23592600000000 ∧ n * N * 360 * 100000 ≤ a * ra * (ma - is) + N * 180 * 100000 ∧ a * ra * (ma - is) - N * 180 * 100000 ≤ n * N * 360 * 100000 := by
  have c := cpN_eq (ccE_of hs a0 (show a ≤ 1000000000000 by omega))
  have hev := hs.ev
  have h0 := hs.ma0
  have h1 := hs.ma1
  obtain ⟨p0, p1⟩ := mul_bd a0 a1 hs.ra0 hs.ra1
  obtain ⟨q0, q1⟩ := mul_bd p0 p1 (show 0 ≤ ev by omega) (show ev ≤ 12 by omega)
  obtain ⟨s0, s1⟩ := mul_bd p0 p1 (show 0 ≤ ma - is by omega) (show ma - is ≤ 18000 by omega)
  rw [hn] at c
  have n0 : 0 ≤ n := by omega
  have n1 : n ≤ 20000 := by omega
  by_cases e0 : ev = 0
  · have : N = 0 := by rw [← hN]; exact dayN_zero e0
    subst this
    have hr : ra = 0 := by omega
    have : n = 0 := by rw [c, hr]; simp
    subst this
    simp [hr]
  · have hd := dayN_last hs e0
    rw [hN] at hd
    obtain ⟨d1, d2, d3⟩ := hd
    obtain ⟨t0, t1⟩ := mul_bd n0 n1 (show 0 ≤ (N : Int) by omega) (show (N : Int) ≤ 600 by omega)
    have e : a * ra * (ma - is) = 30 * (a * ra * ev * N) := by
      rw [← d2]
      simp only [Int.mul_comm, Int.mul_left_comm, Int.mul_assoc]
    have b1 : (n * 1200000 - a * ra * ev) * N ≤ 600000 * N := Int.mul_le_mul_of_nonneg_right (by omega) (by omega)
    have b2 : -600000 * (N : Int) ≤ (n * 1200000 - a * ra * ev) * N := Int.mul_le_mul_of_nonneg_right (by omega) (by omega)
    rw [Int.sub_mul] at b1 b2
    have b3 : n * 1200000 * N = 1200000 * (n * N) := by rw [Int.mul_comm n, Int.mul_assoc]
    rw [b3] at b1 b2
    refine ⟨n0, n1, d3, t0, by omega, p0, by omega, s0, by omega, by omega, by omega⟩
theorem life_day (hs : SecOk id un is ma ra ev) (a0 : 0 ≤ a) (a1 : a ≤ 65535) (he : ev ≠ 0) {k : Nat} (hk : k < dayN id un is ma ra ev) :
    accE id un is ma ra ev a (dayAt is ev k - 1) = 0 ∧ 0 ≤ accN id un is ma ra ev a (dayAt is ev k - 1) ∧ accN id un is ma ra ev a (dayAt is ev k - 1) ≤ cpN id un is ma ra ev a ∧ cpN id un is ma ra ev a - (a * ra / 36000000 + 2) ≤ accN id un is ma ra ev a (dayAt is ev k - 1) := by
  obtain ⟨b0, b1⟩ := dayAt_bd hs he hk
  have hev := hs.ev
  obtain ⟨u1, u2, u3, u4, u5, _, _⟩ := ainv_use (a := a) (d := dayAt is ev k - 1) (bv := if dayAt is ev k - 1 = is then 0 else accN id un is ma ra ev a (dayAt is ev k - 1 - 1)) ⟨by omega, fun h => if_pos h, fun h => if_neg (by omega)⟩ hs a0 a1 (by omega)
  refine ⟨u1, u4, u5, ?_⟩
  have e3 := accN_eq (a := a) (d := dayAt is ev k - 1) hs a0 (by omega) (by omega) (by omega)
  have c := cpN_eq (ccE_of hs a0 (show a ≤ 1000000000000 by omega))
  obtain ⟨p0, p1⟩ := mul_bd a0 a1 hs.ra0 hs.ra1
  by_cases hr : ra = 0
  · have hz : a * ra = 0 := by rw [hr]; simp
    rw [c, hz]
    simp
    omega
  · rw [if_neg hr] at e3
    have l : dayAt is ev k - 1 - lastD id un is ma ra ev (dayAt is ev k - 1) = 30 * ev - 1 := by
      rw [lastD_yes hs (by omega) (by omega), if_neg he]
      have e : (dayAt is ev k - 1 - is) % (30 * ev) = 30 * ev - 1 := by
        have u := Int.ediv_emod_unique (a := dayAt is ev k - 1 - is) (b := 30 * ev) (r := 30 * ev - 1) (q := k) (by omega)
        refine (u.2 ⟨?_, by omega, by omega⟩).2
        unfold dayAt
        rw [Int.mul_add]
        omega
      omega
    rw [e3, l, c]
    have e : a * ra * (30 * ev - 1) = 30 * (a * ra * ev) - a * ra := by
      rw [Int.mul_sub, Int.mul_one, Int.mul_left_comm]
    rw [e]
    omega
end

set_option maxHeartbeats 2000000 in
set_option maxRecDepth 100000 in
theorem life_walk (a0 : Option Addr) (len0 cap0 : Nat) (a : Int) (w : World) (h1 : len0 ≤ cap0) (h2 : cap0 ≤ maxLen) (hz : len0 = 0 ∨ ∃ b off, a0 = some ⟨b, off, none⟩ ∧ ∀ i, i < len0 → ∃ z : Int, w.cell? ⟨b, off + i, none⟩ = some (.int .i64 z)) (x0 : 0 ≤ a) (x1 : a ≤ 65535) :
    Calls Try.prog 6 #[.slice a0 len0 cap0, .int .u16 a] w fun e w' => e = .returned (.bool true) ∧ Below w.heap.size w w' := by
  go_enter Try.func6, Try.ntmps6
  go_wp2_with fail
  refine (new_any a0 len0 cap0 w h1 h2 hz).mono ?_
  rintro e w1 ⟨sb, rfl, hsb, hS1, hB1⟩
  clear hz
  go_wp2_with fail
  refine (srcsec_any sb 1 _ hS1).mono ?_
  rintro e w2 ⟨un, is, ma, ra, ev, ix, hl, rfl, hS2, hG2⟩
  have hB2 : Below w.heap.size w w2 := hB1.trans (below_of_grown hG2 hsb hB1.size)
  obtain ⟨i0, i1, m0, m1, r0, r1, v0, v1⟩ := secLike_bd hl
  have HS := Lib.hid (secLike_ok hl)
  have C := Lib.hid (ccE_of (secLike_ok hl) x0 (show a ≤ 1000000000000 by omega))
  clear hl hB1 hG2
  have z2 := hB2.size
  obtain ⟨N, hN⟩ : ∃ N, dayN 1 un is ma ra ev = N := ⟨_, rfl⟩
  obtain ⟨n, hn⟩ : ∃ n, cpN 1 un is ma ra ev a = n := ⟨_, rfl⟩
  obtain ⟨l1, l2, l3, l4, l5, l6, l7, l8, l9, l10, l11⟩ := life_sum HS.out x0 x1 hN hn
  have HN := Lib.hid hN
  have HM := Lib.hid hn
  clear hN hn
  go_wp2_with fail
  refine (coupon_any _ _ _ _ _ _ _ _ _).mono ?_
  rw [C.out, HM.out]
  rintro e w3 ⟨rfl, hb3⟩
  obtain ⟨hc3, hf3⟩ := bcell hb3
  have hB3 : Below w.heap.size w w3 := below_up' (hB2.alloc hB2.size _) hb3
  have z3 : w2.heap.size < w3.heap.size := by have := hb3.size; simp at this; omega
  have k0 : w3.cell? ⟨w2.heap.size, 0, none⟩ = some (.int .i64 1) := by rw [hc3 _ _ (by simp), World.cell?_alloc_at _ _ _ _ rfl]; rfl
  have k1 : w3.cell? ⟨w2.heap.size, 1, none⟩ = some (.int .i64 un) := by rw [hc3 _ _ (by simp), World.cell?_alloc_at _ _ _ _ rfl]; rfl
  have k2 : w3.cell? ⟨w2.heap.size, 2, none⟩ = some (.int .i64 is) := by rw [hc3 _ _ (by simp), World.cell?_alloc_at _ _ _ _ rfl]; rfl
  have k3 : w3.cell? ⟨w2.heap.size, 3, none⟩ = some (.int .i64 ma) := by rw [hc3 _ _ (by simp), World.cell?_alloc_at _ _ _ _ rfl]; rfl
  have k4 : w3.cell? ⟨w2.heap.size, 4, none⟩ = some (.int .i64 ra) := by rw [hc3 _ _ (by simp), World.cell?_alloc_at _ _ _ _ rfl]; rfl
  have k5 : w3.cell? ⟨w2.heap.size, 5, none⟩ = some (.int .i64 ev) := by rw [hc3 _ _ (by simp), World.cell?_alloc_at _ _ _ _ rfl]; rfl
  have k6 : w3.cell? ⟨w2.heap.size, 6, none⟩ = some (.bool ix) := by rw [hc3 _ _ (by simp), World.cell?_alloc_at _ _ _ _ rfl]; rfl
  clear hc3 hf3 hb3
  go_wp2_with fail
  refine (days_any _ _ _ _ _ _ _ _).mono ?_
  rintro e w4 ⟨v, rfl, ⟨ao, c, rfl, hsl⟩, hb4⟩
  rw [HN.out] at hsl ⊢
  have HSL := Lib.hid hsl
  clear hsl
  obtain ⟨hc4, hf4⟩ := bcell hb4
  have hB4 : Below w.heap.size w w4 := below_up' hB3 hb4
  have z4 := hb4.size
  have zz : w2.heap.size < w4.heap.size := by omega
  clear hb4
  go_wp2
  go_loopw [68] (fun iv wr => ∃ k : Nat, k ≤ N ∧ iv = .int .i64 k ∧ Below w4.heap.size w4 wr) (fun iv _ => N - (intOf iv).toNat)
  case atStart => exact ⟨0, by omega, rfl, Below.refl _ _⟩
  case round =>
    obtain ⟨k, hk, rfl, hbr⟩ := hrel
    have hBr := below_up' hB4 hbr
    have zr := hbr.size
    by_cases hlt : k < N
    · have hev : ev ≠ 0 := by
        intro h
        have := HN.out
        rw [dayN_zero h] at this
        omega
      obtain ⟨b, off, rfl, hb, hcell⟩ := sl_cell HSL.out (by simp [dayCells]; omega)
      have hc := hcell k (by simpa [dayCells] using hlt)
      simp only [dayCells, List.getElem_map, List.getElem_range] at hc
      have hbw := World.block_lt_of_cell? w4 _ hc
      have hcr0 := (hbr.cell (p := ⟨b, off + k, none⟩) hbw).trans hc
      obtain ⟨d1, d2, d3, d4⟩ := life_day HS.out x0 x1 hev (show k < dayN 1 un is ma ra ev by rw [HN.out]; exact hlt)
      obtain ⟨g0, g1⟩ := dayAt_bd HS.out hev (show k < dayN 1 un is ma ra ev by rw [HN.out]; exact hlt)
      rw [HM.out] at d3 d4
      obtain ⟨d, hd⟩ : ∃ d, dayAt is ev k = d := ⟨_, rfl⟩
      rw [hd] at d1 d2 d3 d4 g0 g1 hcr0
      obtain ⟨m, hm⟩ : ∃ m, accN 1 un is ma ra ev a (d - 1) = m := ⟨_, rfl⟩
      rw [hm] at d2 d3 d4
      have H1 := Lib.hid d1
      have H2 := Lib.hid hm
      clear d1 hm hd hc hcell
      obtain ⟨hcr, hfr⟩ := bcell hbr
      have zzr : w2.heap.size < wr.heap.size := by omega
      go_wp2_with fail
      refine (accrued_any _ _ _ _ _ _ _ _ _ _).mono ?_
      rw [H1.out, H2.out]
      rintro e w5 ⟨rfl, hb5⟩
      obtain ⟨hc5, hf5⟩ := bcell hb5
      have z5 := hb5.size
      have hB5 := below_up' hbr hb5
      clear hb5 hBr
      go_wp2
      go_roundw
      case rel => exact ⟨k + 1, by omega, by go_num, hB5⟩
      case measure => simp [intOf]; omega
    · have hkN : k = N := by omega
      subst hkN
      go_wp2_with (go_at_call 17; refine (sane34_any _).mono ?_; rintro e w6 ⟨rfl, hb6⟩)
      go_ret
      exact ⟨rfl, below_up' hBr (by assumption)⟩
end Go.Proofs.Ytkbkohkhpmpddaa
