/- Contracts of the reference's Coupon. -/
import Derived.Test.YtpoidaenkjjdfaaZCont
import Derived.Test.YtpoidaenkjjdfaaZRefH
namespace Go.Proofs.Ytpoidaenkjjdfaa
open Go.RowKit
set_option linter.unusedVariables false

/-- the reference's coupon is the coupon -/
theorem r34coupon_any (id un is ma ra ev : Int) (ix : Bool) (n : Int) (w : World) :
    Calls Try.prog 98 #[.agg #[.int .i64 id, .int .i64 un, .int .i64 is, .int .i64 ma, .int .i64 ra, .int .i64 ev, .bool ix], .int .i64 n] w fun e w' => e = .returned (.tuple #[.int .i64 (cpN id un is ma ra ev n), .int .i64 (ccE id un is ma ra ev n)]) ∧ Below w.heap.size w w' := by
  cases hs : secB id un is ma ra ev
  · have hf := Lib.hid (show ccE id un is ma ra ev n = 76 ∧ cpN id un is ma ra ev n = 0 by simp [ccE, cpN, hs])
    go_enter Try.func98, Try.ntmps98
    go_wp2_with fail
    refine (r33sec_any id un is ma ra ev ix _).mono ?_
    rw [hs]
    rintro e w1 ⟨rfl, hb⟩
    have hB := below_box hb
    go_wp2
    go_ret2
    exact ⟨ret_ee ⟨hf.out.2.symm, hf.out.1.symm⟩, hB⟩
  cases hn : inB n 0 1000000000000
  · have hf := Lib.hid (show ccE id un is ma ra ev n = 2 ∧ cpN id un is ma ra ev n = 0 by simp [ccE, cpN, hs, hn])
    go_enter Try.func98, Try.ntmps98
    go_wp2_with fail
    refine (r33sec_any id un is ma ra ev ix _).mono ?_
    rw [hs]
    rintro e w1 ⟨rfl, hb⟩
    have hB := below_box hb
    go_wp2_with (go_at_call 148; refine (r01valid_any _ _).mono ?_; rw [hn]; rintro e w' ⟨rfl, rfl⟩)
    go_ret2
    exact ⟨ret_ee ⟨hf.out.2.symm, hf.out.1.symm⟩, hB⟩
  obtain ⟨n0, n1⟩ := inB_iff.1 hn
  have hz := ccE_of (secB_iff.1 hs) n0 n1
  have hf := Lib.hid (show ccE id un is ma ra ev n = 0 ∧ cpN id un is ma ra ev n = (n * ra * ev + 600000) / 1200000 from ⟨hz, if_pos hz⟩)
  obtain ⟨_, _, _, _, _, _, _, _, r0, r1, he⟩ := secB_iff.1 hs
  have e0 : 0 ≤ ev ∧ ev ≤ 12 := by omega
  obtain ⟨e0, e1⟩ := e0
  obtain ⟨p0, p1⟩ := mul_bd n0 n1 r0 r1
  obtain ⟨q0, q1⟩ := mul_bd p0 p1 e0 e1
  have HS := Lib.hid hs
  clear he hz hs
  go_enter Try.func98, Try.ntmps98
  go_wp2_with fail
  refine (r33sec_any id un is ma ra ev ix _).mono ?_
  rw [HS.out]
  rintro e w1 ⟨rfl, hb⟩
  obtain ⟨hc, hfz⟩ := bcell hb
  have hz : w.heap.size < w1.heap.size := by have := hb.size; simp at this; omega
  have hB := below_box hb
  go_wp2_with (go_at_call 148; refine (r01valid_any _ _).mono ?_; rw [hn]; rintro e w' ⟨rfl, rfl⟩)
  go_ret2
  exact ⟨ret_ee ⟨hf.out.2.symm, hf.out.1.symm⟩, hB⟩
end Go.Proofs.Ytpoidaenkjjdfaa
