/- The contract of the reference's Security. -/
import Derived.Test.YthjaofgdickkaaaGreatR33Sec1
import Derived.Test.YthjaofgdickkaaaGreatR33Sec2
import Derived.Test.YthjaofgdickkaaaGreatR33Sec3
import Derived.Test.YthjaofgdickkaaaGreatR33Sec4
import Derived.Test.YthjaofgdickkaaaGreatR33Sec5
namespace Go.Proofs.YthjaofgdickkaaaGreat
open Go.RowKit
set_option linter.unusedVariables false

theorem r33sec_any (id un is ma ra ev : Int) (ix : Bool) (w : World) : Calls Tryz.prog 127 #[.agg #[.int .i64 id, .int .i64 un, .int .i64 is, .int .i64 ma, .int .i64 ra, .int .i64 ev, .bool ix]] w fun e w' => e = .returned (.bool (secB id un is ma ra ev)) ∧ Below w.heap.size w w' := by
  by_cases q1 : id < 1
  · exact r33sec_no1 id un is ma ra ev ix w  q1
  have g1 : 1 ≤ id := by omega
  by_cases q2 : 1000 < id
  · exact r33sec_no2 id un is ma ra ev ix w g1 q2
  have g2 : id ≤ 1000 := by omega
  by_cases q3 : un < 1
  · exact r33sec_no3 id un is ma ra ev ix w g1 g2 q3
  have g3 : 1 ≤ un := by omega
  by_cases q4 : 1000000000 < un
  · exact r33sec_no4 id un is ma ra ev ix w g1 g2 g3 q4
  have g4 : un ≤ 1000000000 := by omega
  by_cases q5 : is < 0
  · exact r33sec_no5 id un is ma ra ev ix w g1 g2 g3 g4 q5
  have g5 : 0 ≤ is := by omega
  by_cases q6 : 36000 < is
  · exact r33sec_no6 id un is ma ra ev ix w g1 g2 g3 g4 g5 q6
  have g6 : is ≤ 36000 := by omega
  by_cases q7 : 35990 < ma
  · exact r33sec_no7 id un is ma ra ev ix w g1 g2 g3 g4 g5 g6 q7
  have g7 : ma ≤ 35990 := by omega
  by_cases q8 : ma < is + 30
  · exact r33sec_no8 id un is ma ra ev ix w g1 g2 g3 g4 g5 g6 g7 q8
  have g8 : is + 30 ≤ ma := by omega
  by_cases q9 : is + 18000 < ma
  · exact r33sec_no9 id un is ma ra ev ix w g1 g2 g3 g4 g5 g6 g7 g8 q9
  have g9 : ma ≤ is + 18000 := by omega
  cases g10 : ((ma - is) % 30 == 0)
  · exact r33sec_no10 id un is ma ra ev ix w g1 g2 g3 g4 g5 g6 g7 g8 g9 g10 (by rw [bne, g10]; rfl)
  have g10' : ((ma - is) % 30 != 0) = false := by rw [bne, g10]; rfl
  by_cases q11 : ra < 0
  · exact r33sec_no11 id un is ma ra ev ix w g1 g2 g3 g4 g5 g6 g7 g8 g9 g10 g10' q11
  have g11 : 0 ≤ ra := by omega
  by_cases q12 : 20000 < ra
  · exact r33sec_no12 id un is ma ra ev ix w g1 g2 g3 g4 g5 g6 g7 g8 g9 g10 g10' g11 q12
  have g12 : ra ≤ 20000 := by omega
  exact r33sec_last id un is ma ra ev ix w g1 g2 g3 g4 g5 g6 g7 g8 g9 g10 g10' g11 g12 _ rfl
end Go.Proofs.YthjaofgdickkaaaGreat
