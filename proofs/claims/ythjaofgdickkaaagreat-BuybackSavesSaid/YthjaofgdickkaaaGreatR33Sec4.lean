/- The contract of the reference's Security. -/
import Derived.Test.YthjaofgdickkaaaGreatR33Sec0
namespace Go.Proofs.YthjaofgdickkaaaGreat
open Go.RowKit
set_option linter.unusedVariables false

set_option maxHeartbeats 1000000 in
theorem r33sec_no12 (id un is ma ra ev : Int) (ix : Bool) (w : World) (h1 : 1 ≤ id) (h2 : id ≤ 1000) (h3 : 1 ≤ un) (h4 : un ≤ 1000000000) (h5 : 0 ≤ is) (h6 : is ≤ 36000) (h7 : ma ≤ 35990) (h8 : is + 30 ≤ ma) (h9 : ma ≤ is + 18000) (h10 : ((ma - is) % 30 == 0) = true) (h10' : ((ma - is) % 30 != 0) = false) (h11 : 0 ≤ ra) (q : 20000 < ra) : Calls Tryz.prog 127 #[.agg #[.int .i64 id, .int .i64 un, .int .i64 is, .int .i64 ma, .int .i64 ra, .int .i64 ev, .bool ix]] w fun e w' => e = .returned (.bool (secB id un is ma ra ev)) ∧ Below w.heap.size w w' := by
  have hf := Lib.hid (show false = secB id un is ma ra ev from by refine secB_eq_false ?_; rintro ⟨_, _, _, _, _, _, _, _, _, _, _⟩; omega)
  have d1 : decide (id < 1) = false := by simp; omega
  have d2 : decide (1000 < id) = false := by simp; omega
  have d3 : decide (un < 1) = false := by simp; omega
  have d4 : decide (1000000000 < un) = false := by simp; omega
  have d5 : decide (is < 0) = false := by simp; omega
  have d6 : decide (36000 < is) = false := by simp; omega
  have d7 : decide (35990 < ma) = false := by simp; omega
  have d8 : decide (ma < is + 30) = false := by simp; omega
  have d9 : decide (is + 18000 < ma) = false := by simp; omega
  have d11 : decide (ra < 0) = false := by simp; omega
  have d12 : decide (20000 < ra) = true := by simpa using q
  go_enter Tryz.func127, Tryz.ntmps127
  go_wp2
  go_ret
  exact ⟨ret_bool hf.out, (Below.refl _ _).alloc (Nat.le_refl _) _⟩
end Go.Proofs.YthjaofgdickkaaaGreat
