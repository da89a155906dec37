/- A piece of a body, by the number of its first region. -/
import Derived.Test.YtpoidaenkjjdfaaProg
namespace Go.Proofs.Ytpoidaenkjjdfaa
/-- the piece of a body that begins with a region: that region, and what follows it -/
def seqAt (r : Nat) : Code → Option (Code × Code)
  | .seq a b => match (match a with
      | .region id _ _ => if id = r then some (a, b) else none
      | _ => none) with
    | some x => some x
    | none => match seqAt r a with
      | some x => some x
      | none => seqAt r b
  | .block _ c => seqAt r c
  | .loop c => seqAt r c
  | .scope c => seqAt r c
  | .cond _ a b => match seqAt r a with
    | some x => some x
    | none => seqAt r b
  | _ => none
end Go.Proofs.Ytpoidaenkjjdfaa
