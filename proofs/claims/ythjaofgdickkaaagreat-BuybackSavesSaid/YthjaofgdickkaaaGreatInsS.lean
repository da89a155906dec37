/- slices.Insert (one element) and slices.Delete (one element) at rows that the call owns. Printed by wip/gen/ins.py. -/
import Derived.Test.YthjaofgdickkaaaGreatOwn
import Derived.Test.YthjaofgdickkaaaGreatTypes
import Derived.BigQuiet
namespace Go.Proofs.YthjaofgdickkaaaGreat
open Go.RowKit
set_option linter.unusedVariables false
set_option linter.unusedSimpArgs false

end Go.Proofs.YthjaofgdickkaaaGreat
