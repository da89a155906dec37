/- The contract of the reference's Security: its false arm. -/
import Derived.Test.YthjaofgdickkaaaGreatSec
namespace Go.Proofs.YthjaofgdickkaaaGreat
open Go.RowKit
set_option linter.unusedVariables false

theorem secB_eq_false {id un is ma ra ev : Int} (h : SecOk id un is ma ra ev → False) : false = secB id un is ma ra ev := (secB_false h).symm
end Go.Proofs.YthjaofgdickkaaaGreat
