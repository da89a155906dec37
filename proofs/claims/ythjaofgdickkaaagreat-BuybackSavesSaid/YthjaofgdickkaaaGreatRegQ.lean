/- register: Add. -/
import Derived.Test.YthjaofgdickkaaaGreatRegO
namespace Go.Proofs.YthjaofgdickkaaaGreat
open Go.RowKit
set_option linter.unusedVariables false
set_option linter.unusedSimpArgs false
/-- the error and the register of Add -/
def raE (R : Reg) (x : Sec) : Int := if chkE R = 0 then (if secOk x = true ∧ isS R.secs x.id = false then (if R.secs.length = 20 then 3 else 0) else 76) else chkE R
def raR (R : Reg) (x : Sec) : Reg := if raE R x = 0 then ⟨R.secs.take (posS R.secs x.id) ++ x :: R.secs.drop (posS R.secs x.id), R.hs, R.ms⟩ else ⟨[], [], []⟩
end Go.Proofs.YthjaofgdickkaaaGreat
