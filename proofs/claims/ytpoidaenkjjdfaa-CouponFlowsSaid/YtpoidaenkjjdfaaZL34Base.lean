/- sane of the statements on coupons. -/
import Derived.Test.YtpoidaenkjjdfaaZAcc
import Derived.Test.YtpoidaenkjjdfaaZDays
import Derived.Test.YtpoidaenkjjdfaaZSrcOdd
namespace Go.Proofs.Ytpoidaenkjjdfaa
open Go.RowKit
set_option linter.unusedVariables false

theorem below_up {w w1 w2 : World} (h : Below w.heap.size w w1) (k : Below w1.heap.size w1 w2) : Below w.heap.size w w2 := h.trans (k.mono h.size)
theorem below_up' {B : Nat} {w w1 w2 : World} (h : Below B w w1) (k : Below w1.heap.size w1 w2) (hB : B ≤ w.heap.size := by omega) : Below B w w2 := h.trans (k.mono (Nat.le_trans hB h.size))

theorem half_any (w : World) : Calls Try.prog 126 #[] w fun e w' => e = .returned (.agg #[.int .i64 1, .int .i64 1, .int .i64 0, .int .i64 720, .int .i64 5000, .int .i64 6, .bool false]) ∧ Below w.heap.size w w' := by
  go_enter Try.func126, Try.ntmps126
  go_wp2
  exact bodyPost_ret (v := .agg #[.int .i64 1, .int .i64 1, .int .i64 0, .int .i64 720, .int .i64 5000, .int .i64 6, .bool false]) (by simp [results, Try.results126, go_sem]) rfl ⟨rfl, (Below.refl _ _).alloc (Nat.le_refl _) _⟩

set_option maxHeartbeats 400000 in
theorem sane34_any (w : World) : Calls Try.prog 68 #[] w fun e w' => e = .returned (.bool true) ∧ Below w.heap.size w w' := by
  have D1 := Lib.hid (show cpN 1 1 0 720 5000 6 100000 = 2500 ∧ ccE 1 1 0 720 5000 6 100000 = 0 by decide)
  have D2 := Lib.hid (show accN 1 1 0 720 5000 6 100000 270 = 1250 ∧ accE 1 1 0 720 5000 6 100000 270 = 0 by decide)
  have D3 := Lib.hid (show dayN 1 1 0 720 5000 6 = 4 by decide)
  have D4 := Lib.hid (show lastD 1 1 0 720 5000 6 270 = 180 by decide)
  go_enter Try.func68, Try.ntmps68
  go_wp2_with fail
  refine (half_any _).mono ?_
  rintro e w1 ⟨rfl, hb1⟩
  go_wp2_with fail
  refine (coupon_any _ _ _ _ _ _ _ _ _).mono ?_
  rw [D1.out.1, D1.out.2]
  rintro e w2 ⟨rfl, hb2⟩
  go_wp2_with fail
  refine (half_any _).mono ?_
  rintro e w3 ⟨rfl, hb3⟩
  go_wp2_with fail
  refine (accrued_any _ _ _ _ _ _ _ _ _ _).mono ?_
  rw [D2.out.1, D2.out.2]
  rintro e w4 ⟨rfl, hb4⟩
  go_wp2_with fail
  refine (half_any _).mono ?_
  rintro e w5 ⟨rfl, hb5⟩
  go_wp2_with fail
  refine (days_any _ _ _ _ _ _ _ _).mono ?_
  rintro e w6 ⟨v, rfl, ⟨ao, c, rfl, _⟩, hb6⟩
  rw [D3.out]
  go_wp2_with fail
  refine (half_any _).mono ?_
  rintro e w7 ⟨rfl, hb7⟩
  go_wp2_with fail
  refine (last_any _ _ _ _ _ _ _ _ _).mono ?_
  rw [D4.out]
  rintro e w8 ⟨rfl, hb8⟩
  go_wp2
  go_ret
  exact ⟨rfl, below_up (below_up (below_up (below_up (below_up (below_up (below_up hb1 hb2) hb3) hb4) hb5) hb6) hb7) hb8⟩
end Go.Proofs.Ytpoidaenkjjdfaa
