/- CouponAccrues. -/
import Derived.Test.YtkbkohkhpmpddaaL34Parts
namespace Go.Proofs.Ytkbkohkhpmpddaa
open Go.RowKit
set_option linter.unusedVariables false

section
variable {id un is ma ra ev a d : Int}
theorem accE_ok (hs : SecOk id un is ma ra ev) (a0 : 0 ≤ a) (a1 : a ≤ 1000000000000) (h0 : is ≤ d) (h1 : d ≤ ma) : accE id un is ma ra ev a d = 0 ∧ 0 ≤ lastD id un is ma ra ev d := by
  have hl : 0 ≤ lastD id un is ma ra ev d := by
    rw [lastD_yes hs h0 h1]
    have := hs.is0
    split
    · exact this
    · have hev := hs.ev
      have k2 : (d - is) % (30 * ev) ≤ d - is := by
        have := Int.emod_add_mul_ediv (d - is) (30 * ev)
        have : 0 ≤ (30 * ev) * ((d - is) / (30 * ev)) := Int.mul_nonneg (by omega) (Int.ediv_nonneg (by omega) (by omega))
        omega
      omega
  refine ⟨?_, hl⟩
  unfold accE
  rw [if_pos (ccE_of hs a0 a1), if_neg (by omega)]
theorem accN_eq (hs : SecOk id un is ma ra ev) (a0 : 0 ≤ a) (a1 : a ≤ 1000000000000) (h0 : is ≤ d) (h1 : d ≤ ma) : accN id un is ma ra ev a d = if ra = 0 then 0 else (a * ra * (d - lastD id un is ma ra ev d) + 18000000) / 36000000 := by
  have hl := (accE_ok hs a0 a1 h0 h1).2
  unfold accN
  by_cases hr : ra = 0
  · rw [if_neg (by simp [hr]), if_pos hr]
  · rw [if_pos ⟨ccE_of hs a0 a1, hl, hr⟩, if_neg hr]
/-- one day more of a period -/
theorem lastD_prev (hs : SecOk id un is ma ra ev) (h0 : is < d) (h1 : d ≤ ma) (h : d ≠ lastD id un is ma ra ev d) : lastD id un is ma ra ev (d - 1) = lastD id un is ma ra ev d := by
  rw [lastD_yes hs (by omega) h1] at *
  rw [lastD_yes hs (by omega) (by omega)]
  by_cases e0 : ev = 0
  · rw [if_pos e0, if_pos e0]
  · rw [if_neg e0] at *
    rw [if_neg e0]
    have hev := hs.ev
    have k0 : 0 ≤ (d - is) % (30 * ev) := Int.emod_nonneg _ (by omega)
    have k1 : (d - is) % (30 * ev) < 30 * ev := Int.emod_lt_of_pos _ (by omega)
    have q := Int.emod_add_mul_ediv (d - is) (30 * ev)
    have e : (d - 1 - is) % (30 * ev) = (d - is) % (30 * ev) - 1 := by
      have u := Int.ediv_emod_unique (a := d - 1 - is) (b := 30 * ev) (r := (d - is) % (30 * ev) - 1) (q := (d - is) / (30 * ev)) (by omega)
      exact (u.2 ⟨by omega, by omega, by omega⟩).2
    omega
structure AInv (id un is ma ra ev a d bv : Int) : Prop where
  d0 : is ≤ d
  z : d = is → bv = 0
  s : is < d → bv = accN id un is ma ra ev a (d - 1)
theorem ainv_start : AInv id un is ma ra ev a is 0 := ⟨by omega, fun _ => rfl, fun h => by omega⟩
theorem ainv_step {bv : Int} (h : AInv id un is ma ra ev a d bv) : AInv id un is ma ra ev a (d + 1) (accN id un is ma ra ev a d) := by
  have := h.d0
  exact ⟨by omega, fun h => by omega, fun _ => by rw [show d + 1 - 1 = d by omega]⟩
theorem ainv_use {bv : Int} (h : AInv id un is ma ra ev a d bv) (hs : SecOk id un is ma ra ev) (a0 : 0 ≤ a) (a1 : a ≤ 65535) (h1 : d ≤ ma) :
    accE id un is ma ra ev a d = 0 ∧ is ≤ lastD id un is ma ra ev d ∧ lastD id un is ma ra ev d ≤ d ∧ 0 ≤ accN id un is ma ra ev a d ∧ accN id un is ma ra ev a d ≤ cpN id un is ma ra ev a ∧ (d = lastD id un is ma ra ev d → accN id un is ma ra ev a d = 0) ∧ (d ≠ lastD id un is ma ra ev d → bv ≤ accN id un is ma ra ev a d) := by
  obtain ⟨h0, hz, hst⟩ := h
  obtain ⟨e1, e2⟩ := accE_ok (a := a) hs a0 (by omega) h0 h1
  obtain ⟨_, _, l0, l1, l2⟩ := lastD_bd hs e2
  have e3 := accN_eq (a := a) hs a0 (by omega) h0 h1
  have hev := hs.ev
  have c := cpN_eq (ccE_of hs a0 (show a ≤ 1000000000000 by omega))
  obtain ⟨p0, p1⟩ := mul_bd a0 a1 hs.ra0 hs.ra1
  obtain ⟨q0, q1⟩ := mul_bd p0 p1 (show 0 ≤ ev by omega) (show ev ≤ 12 by omega)
  by_cases hr : ra = 0
  · rw [if_pos hr] at e3
    refine ⟨e1, l0, l1, by omega, by omega, fun _ => e3, fun hne => ?_⟩
    rw [e3]
    rcases Int.lt_or_eq_of_le h0 with h | h
    · rw [hst h, accN_eq hs a0 (by omega) (by omega) (by omega), if_pos hr]
      omega
    · rw [hz h.symm]; omega
  · rw [if_neg hr] at e3
    have l3 := l2 (by omega)
    obtain ⟨s0, s1⟩ := mul_bd p0 p1 (show 0 ≤ d - lastD id un is ma ra ev d by omega) l3
    have e0 : ev ≠ 0 := by omega
    have l4 : d - lastD id un is ma ra ev d ≤ 30 * ev := by
      rw [lastD_yes hs h0 h1, if_neg e0]
      have k1 : (d - is) % (30 * ev) < 30 * ev := Int.emod_lt_of_pos _ (by omega)
      omega
    have s2 : a * ra * (d - lastD id un is ma ra ev d) ≤ a * ra * (30 * ev) := Int.mul_le_mul_of_nonneg_left l4 p0
    have s3 : a * ra * (30 * ev) = 30 * (a * ra * ev) := by rw [Int.mul_left_comm]
    refine ⟨e1, l0, l1, by rw [e3]; omega, by rw [e3, c]; omega, fun h => ?_, fun hne => ?_⟩
    · rw [e3, ← h]; simp
    · rcases Int.lt_or_eq_of_le h0 with h | h
      · rw [hst h, e3, accN_eq hs a0 (by omega) (by omega) (by omega), if_neg hr, lastD_prev hs h h1 hne]
        have : a * ra * (d - 1 - lastD id un is ma ra ev d) ≤ a * ra * (d - lastD id un is ma ra ev d) := Int.mul_le_mul_of_nonneg_left (by omega) p0
        omega
      · rw [hz h.symm, e3]; omega
end

set_option maxHeartbeats 2000000 in
set_option maxRecDepth 100000 in
theorem accr_walk (a0 : Option Addr) (len0 cap0 : Nat) (a : Int) (w : World) (h1 : len0 ≤ cap0) (h2 : cap0 ≤ maxLen) (hz : len0 = 0 ∨ ∃ b off, a0 = some ⟨b, off, none⟩ ∧ ∀ i, i < len0 → ∃ z : Int, w.cell? ⟨b, off + i, none⟩ = some (.int .i64 z)) (x0 : 0 ≤ a) (x1 : a ≤ 65535) :
    Calls Try.prog 4 #[.slice a0 len0 cap0, .int .u16 a] w fun e w' => e = .returned (.bool true) ∧ Below w.heap.size w w' := by
  go_enter Try.func4, Try.ntmps4
  go_wp2_with fail
  refine (new_any a0 len0 cap0 w h1 h2 hz).mono ?_
  rintro e w1 ⟨sb, rfl, hsb, hS1, hB1⟩
  clear hz
  go_wp2_with fail
  refine (srcsec_any sb 1 _ hS1).mono ?_
  rintro e w2 ⟨un, is, ma, ra, ev, ix, hl, rfl, hS2, hG2⟩
  have hB2 : Below w.heap.size w w2 := hB1.trans (below_of_grown hG2 hsb hB1.size)
  obtain ⟨i0, i1, m0, m1, r0, r1, v0, v1⟩ := secLike_bd hl
  have C := Lib.hid (ccE_of (secLike_ok hl) x0 (show a ≤ 1000000000000 by omega))
  have HS := Lib.hid (secLike_ok hl)
  clear hl hB1 hG2
  have z2 := hB2.size
  go_wp2_with fail
  refine (coupon_any _ _ _ _ _ _ _ _ _).mono ?_
  rw [C.out]
  rintro e w3 ⟨rfl, hb3⟩
  obtain ⟨hc3, hf3⟩ := bcell hb3
  have hB3 : Below w.heap.size w w3 := below_up' (hB2.alloc hB2.size _) hb3
  have z3 : w2.heap.size < w3.heap.size := by have := hb3.size; simp at this; omega
  have k0 : w3.cell? ⟨w2.heap.size, 0, none⟩ = some (.int .i64 1) := by rw [hc3 _ _ (by simp), World.cell?_alloc_at _ _ _ _ rfl]; rfl
  have k1 : w3.cell? ⟨w2.heap.size, 1, none⟩ = some (.int .i64 un) := by rw [hc3 _ _ (by simp), World.cell?_alloc_at _ _ _ _ rfl]; rfl
  have k2 : w3.cell? ⟨w2.heap.size, 2, none⟩ = some (.int .i64 is) := by rw [hc3 _ _ (by simp), World.cell?_alloc_at _ _ _ _ rfl]; rfl
  have k3 : w3.cell? ⟨w2.heap.size, 3, none⟩ = some (.int .i64 ma) := by rw [hc3 _ _ (by simp), World.cell?_alloc_at _ _ _ _ rfl]; rfl
  have k4 : w3.cell? ⟨w2.heap.size, 4, none⟩ = some (.int .i64 ra) := by rw [hc3 _ _ (by simp), World.cell?_alloc_at _ _ _ _ rfl]; rfl
  have k5 : w3.cell? ⟨w2.heap.size, 5, none⟩ = some (.int .i64 ev) := by rw [hc3 _ _ (by simp), World.cell?_alloc_at _ _ _ _ rfl]; rfl
  have k6 : w3.cell? ⟨w2.heap.size, 6, none⟩ = some (.bool ix) := by rw [hc3 _ _ (by simp), World.cell?_alloc_at _ _ _ _ rfl]; rfl
  clear hc3 hf3 hb3
  go_wp2
  go_loopw [9, 10] (fun bvv dv wr => ∃ bv d : Int, bvv = .int .i64 bv ∧ dv = .int .i64 d ∧ AInv 1 un is ma ra ev a d bv ∧ d ≤ ma + 1 ∧ Below w3.heap.size w3 wr) (fun _ dv _ => (ma + 2 - intOf dv).toNat)
  case atStart => exact ⟨0, is, rfl, rfl, ainv_start, by omega, Below.refl _ _⟩
  case round =>
    obtain ⟨bv, d, rfl, rfl, hI, hd1, hbr⟩ := hrel
    have d0 := hI.d0
    have HI := Lib.hid hI
    clear hI
    obtain ⟨hcr, hfr⟩ := bcell hbr
    have zr := hbr.size
    have zz : w2.heap.size < wr.heap.size := by omega
    have hBr := below_up' hB3 hbr
    by_cases hm : ma ≤ is + 400 ∧ d ≤ ma ∨ ¬ ma ≤ is + 400 ∧ d ≤ is + 400
    · have hdm : d ≤ ma := by omega
      obtain ⟨u1, u2, u3, u4, u5, u6, u7⟩ := ainv_use HI.out HS.out x0 x1 hdm
      have U := Lib.hid u1
      clear u1
      have V := Lib.hid (ainv_step HI.out)
      by_cases hq : d = lastD 1 un is ma ra ev d
      · have g1 := u6 hq
        have g2 : lastD 1 un is ma ra ev d = d := hq.symm
        have V2 := Lib.hid (show AInv 1 un is ma ra ev a (d + 1) 0 by rw [← g1]; exact V.out)
        have g3 : 0 ≤ cpN 1 un is ma ra ev a := by omega
        clear u6 u7 hq u2 u3 u4 u5
        rcases hm with ⟨n1, n2⟩ | ⟨n1, n2⟩
        all_goals
          go_wp2_with fail
          refine (accrued_any _ _ _ _ _ _ _ _ _ _).mono ?_
          rw [U.out]
          rintro e w4 ⟨rfl, hb4⟩
          obtain ⟨hc4, hf4⟩ := bcell hb4
          have z4 := hb4.size
          have zz4 : w2.heap.size < w4.heap.size := by omega
          have hB4 := below_up' hbr hb4
          go_wp2_with fail
          refine (last_any _ _ _ _ _ _ _ _ _).mono ?_
          rintro e w5 ⟨rfl, hb5⟩
          obtain ⟨hc5, hf5⟩ := bcell hb5
          have z5 := hb5.size
          have hB5 := below_up' hB4 hb5
          clear hb4 hb5 hBr hB4
          go_wp2
          go_roundw
          case rel => exact ⟨_, d + 1, rfl, by go_num, V2.out, by omega, hB5⟩
          case measure => simp [intOf]; omega
      · have g1 := u7 hq
        clear u6 u7
        obtain ⟨ld, hld⟩ : ∃ ld, lastD 1 un is ma ra ev d = ld := ⟨_, rfl⟩
        rw [hld] at hq u2 u3
        have HL := Lib.hid hld
        clear hld
        rcases hm with ⟨n1, n2⟩ | ⟨n1, n2⟩
        all_goals
          go_wp2_with fail
          refine (accrued_any _ _ _ _ _ _ _ _ _ _).mono ?_
          rw [U.out]
          rintro e w4 ⟨rfl, hb4⟩
          obtain ⟨hc4, hf4⟩ := bcell hb4
          have z4 := hb4.size
          have zz4 : w2.heap.size < w4.heap.size := by omega
          have hB4 := below_up' hbr hb4
          go_wp2_with fail
          refine (last_any _ _ _ _ _ _ _ _ _).mono ?_
          rw [HL.out]
          rintro e w5 ⟨rfl, hb5⟩
          obtain ⟨hc5, hf5⟩ := bcell hb5
          have z5 := hb5.size
          have hB5 := below_up' hB4 hb5
          clear hb4 hb5 hBr hB4
          go_wp2
          go_roundw
          case rel => exact ⟨_, d + 1, rfl, by go_num, V.out, by omega, hB5⟩
          case measure => simp [intOf]; omega
    · rcases (show ma ≤ is + 400 ∧ ma < d ∨ is + 400 < ma ∧ is + 400 < d by omega) with ⟨n1, n2⟩ | ⟨n1, n2⟩
      all_goals
        clear hm
        go_wp2_with (go_at_call 17; refine (sane34_any _).mono ?_; rintro e w6 ⟨rfl, hb6⟩)
        go_ret
        exact ⟨rfl, below_up' hBr (by assumption)⟩
end Go.Proofs.Ytkbkohkhpmpddaa
