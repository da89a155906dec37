/- Contracts of coupon's Accrued and Days. -/
import Derived.Test.YtpoidaenkjjdfaaZCont
namespace Go.Proofs.Ytpoidaenkjjdfaa
open Go.RowKit
set_option linter.unusedVariables false

/-- accrued interest and its error -/
def accE (id un is ma ra ev n day : Int) : Int := if ccE id un is ma ra ev n = 0 then (if lastD id un is ma ra ev day < 0 then 8 else 0) else ccE id un is ma ra ev n
def accN (id un is ma ra ev n day : Int) : Int := if ccE id un is ma ra ev n = 0 ∧ 0 ≤ lastD id un is ma ra ev day ∧ ra ≠ 0 then (n * ra * (day - lastD id un is ma ra ev day) + 18000000) / 36000000 else 0

theorem lastD_bd {id un is ma ra ev day : Int} (hs : SecOk id un is ma ra ev) (h : 0 ≤ lastD id un is ma ra ev day) : is ≤ day ∧ day ≤ ma ∧ is ≤ lastD id un is ma ra ev day ∧ lastD id un is ma ra ev day ≤ day ∧ (ev ≠ 0 → day - lastD id un is ma ra ev day ≤ 359) := by
  have hb := secB_iff.2 hs
  cases hd : inB day is ma
  · simp [lastD, hd] at h
  · obtain ⟨d0, d1⟩ := inB_iff.1 hd
    rw [lastD_yes hs d0 d1] at *
    obtain ⟨_, _, _, _, i0, m0, m1, m2, r0, r1, he⟩ := hs
    by_cases e0 : ev = 0
    · simp [e0] at *; omega
    · rw [if_neg e0] at *
      have k0 : 0 ≤ (day - is) % (30 * ev) := Int.emod_nonneg _ (by omega)
      have k1 : (day - is) % (30 * ev) < 30 * ev := Int.emod_lt_of_pos _ (by omega)
      have k2 : (day - is) % (30 * ev) ≤ day - is := by
        have := Int.emod_add_mul_ediv (day - is) (30 * ev)
        have : 0 ≤ (30 * ev) * ((day - is) / (30 * ev)) := Int.mul_nonneg (by omega) (Int.ediv_nonneg (by omega) (by omega))
        omega
      omega

set_option maxHeartbeats 400000 in
theorem accrued_any (id un is ma ra ev : Int) (ix : Bool) (n day : Int) (w : World) :
    Calls Try.prog 127 #[.agg #[.int .i64 id, .int .i64 un, .int .i64 is, .int .i64 ma, .int .i64 ra, .int .i64 ev, .bool ix], .int .i64 n, .int .i64 day] w fun e w' => e = .returned (.tuple #[.int .i64 (accN id un is ma ra ev n day), .int .i64 (accE id un is ma ra ev n day)]) ∧ Below w.heap.size w w' := by
  unfold accN accE
  by_cases h : ccE id un is ma ra ev n = 0
  · obtain ⟨hs, n0, n1⟩ := ccE_zero h
    by_cases hl : lastD id un is ma ra ev day < 0
    · rw [if_pos h, if_pos hl, if_neg (by omega)]
      have H := Lib.hid h
      clear h hs
      go_enter Try.func127, Try.ntmps127
      go_wp2_with fail
      refine (ccheck_any id un is ma ra ev ix n _).mono ?_
      rw [H.out]
      rintro e w1 ⟨rfl, hb⟩
      obtain ⟨hc, hf⟩ := bcell hb
      have hB := below_box hb
      have hz : w.heap.size < w1.heap.size := by have := hb.size; simp at this; omega
      go_wp2_with (go_at_call 128; refine (last_any _ _ _ _ _ _ _ _ _).mono ?_; rintro e w2 ⟨rfl, hb2⟩)
      go_ret2
      exact ⟨rfl, hB.trans ((by assumption : Below w1.heap.size w1 _).mono (by omega))⟩
    · obtain ⟨d0, d1, l0, l1, l2⟩ := lastD_bd hs (show 0 ≤ lastD id un is ma ra ev day by omega)
      rw [if_pos h, if_neg hl]
      have H := Lib.hid h
      clear h
      by_cases hr : ra = 0
      · rw [if_neg (by simp [hr])]
        have HS := Lib.hid hs
        have e1 : (ra == 0) = true := by simpa using hr
        clear hs hr
        go_enter Try.func127, Try.ntmps127
        go_wp2_with fail
        refine (ccheck_any id un is ma ra ev ix n _).mono ?_
        rw [H.out]
        rintro e w1 ⟨rfl, hb⟩
        obtain ⟨hc, hf⟩ := bcell hb
        have hB := below_box hb
        have hz : w.heap.size < w1.heap.size := by have := hb.size; simp at this; omega
        go_wp2_with fail
        refine (last_any id un is ma ra ev ix day _).mono ?_
        rintro e w2 ⟨rfl, hb2⟩
        obtain ⟨hc2, hf2⟩ := bcell hb2
        go_wp2
        go_ret2
        exact ⟨rfl, hB.trans (hb2.mono (by omega))⟩
      · rw [if_pos ⟨H.out, by omega, hr⟩]
        obtain ⟨_, _, _, _, i0, m0, m1, m2, r0, r1, he⟩ := hs
        have l3 : day - lastD id un is ma ra ev day ≤ 359 := l2 (by omega)
        obtain ⟨p0, p1⟩ := mul_bd n0 n1 r0 r1
        obtain ⟨q0, q1⟩ := mul_bd p0 p1 (show 0 ≤ day - lastD id un is ma ra ev day by omega) l3
        have e1 : (ra == 0) = false := by simpa using hr
        clear he hr l2
        go_enter Try.func127, Try.ntmps127
        go_wp2_with fail
        refine (ccheck_any id un is ma ra ev ix n _).mono ?_
        rw [H.out]
        rintro e w1 ⟨rfl, hb⟩
        obtain ⟨hc, hf⟩ := bcell hb
        have hB := below_box hb
        have hz : w.heap.size < w1.heap.size := by have := hb.size; simp at this; omega
        go_wp2_with fail
        refine (last_any id un is ma ra ev ix day _).mono ?_
        rintro e w2 ⟨rfl, hb2⟩
        obtain ⟨hc2, hf2⟩ := bcell hb2
        go_wp2_with (go_at_call 125; refine (nearest_any _ _ _ (by omega) (by omega) (by omega) (by omega)).mono ?_; rintro e w' ⟨rfl, rfl⟩)
        go_ret2
        exact ⟨ret_ee ⟨rfl, rfl⟩, hB.trans (hb2.mono (by omega))⟩
  · rw [if_neg h, if_neg (by simp [h])]
    have h' : (ccE id un is ma ra ev n != 0) = true := by simpa using h
    clear h
    go_enter Try.func127, Try.ntmps127
    go_wp2_with fail
    refine (ccheck_any id un is ma ra ev ix n _).mono ?_
    rintro e w1 ⟨rfl, hb⟩
    have hB := below_box hb
    go_wp2
    go_ret2
    exact ⟨rfl, hB⟩
end Go.Proofs.Ytpoidaenkjjdfaa
