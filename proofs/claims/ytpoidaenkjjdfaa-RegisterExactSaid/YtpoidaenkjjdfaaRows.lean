/-
  No cell of these rows narrows 'for every input' (looked for: loops, veiled, ifaces, maps, wideKeys, modest, calm, conditions, laid).
  DERIVED. THE GIVEN ROWS OF THIS SEAT. 4 by the template 'for every input the law returns true; each argument reads behind the call as it read before'; 0 by the template 'total and deterministic' (their statements: YtpoidaenkjjdfaaTotals.lean).
  GIVEN WITH THE SEED: the statements are not yours to turn. If you find one false, say at which input.
  Laid BY PROGRAM, IN A SANDBOX (cutbox-rows.mjs): the forced cells as the released guide's own fill.sh prints them over the translation 1ba7ff32d17b3db0… (all of the seat's roots in one cut). By AI agents, Wed Nov 11 2026. No macro, syntax, notation, axiom, sorry.
-/
import Derived.Test.YtpoidaenkjjdfaaChecked
import GoSem.Claim
import GoSem.ClaimJoined
import GoSem.ClaimMapViews
import Derived.JoinedTies
import Derived.KernelRfl
namespace Go.Proofs.Ytpoidaenkjjdfaa
/- THE CELL 'sum', in the pinned program and in every row, IS THE sha256 OF THE DUMP (.gsa) THAT YtpoidaenkjjdfaaProg.lean LOADS. Nothing in Lean hashes anything: it is a label: what it is worth is what the hold of that sum in a sandbox is worth. -/
noncomputable def Try.pinned : Pinned := { name := "ytpoidaenkjjdfaa", sum := "1ba7ff32d17b3db06fb088bde3b60d4903372235cc30bddd90ee58bb8de0e403", checked := Try.checked }
namespace Rows
def none {H : Type} : Left H := { results := [], args := [] }

/-- 'treasurylaw33.RegisterExact': WHATEVER THE INPUT: true; the input reads as it did. -/
def registerExactSpec : ChangeSpec := { name := "registerExact", fn := fun _ => fun
  | [d1, d2, d3, d4, d5, d6, d7, d8] => { results := [.lit (.bool true)], args := [d1, d2, d3, d4, d5, d6, d7, d8] }
  | _ => none }
def registerExactRow : OpenClaim := { program := "ytpoidaenkjjdfaa", sum := "1ba7ff32d17b3db06fb088bde3b60d4903372235cc30bddd90ee58bb8de0e403", func := "treasury/treasurylaw33.RegisterExact", spec := "registerExact", inPlace := ["slices.overlaps[treasury/api.Holding]", "slices.overlaps[treasury/api.Security]"], unfollowed := true, recurses := true, apart := false }
def RegisterExactSaid : Prop := registerExactRow.holds Try.pinned (OpenSpec.ofChange registerExactSpec)

/-- ITS FALSE NEIGHBOUR: 'it returns false'. Refute it at one input. -/
def registerExactWrong : ChangeSpec := { name := "registerExact", fn := fun _ => fun
  | [d1, d2, d3, d4, d5, d6, d7, d8] => { results := [.lit (.bool false)], args := [d1, d2, d3, d4, d5, d6, d7, d8] }
  | _ => none }
def RegisterExactWrongFalsely : Prop := registerExactRow.holds Try.pinned (OpenSpec.ofChange registerExactWrong)

/-- 'treasurylaw36.IndexFlat': WHATEVER THE INPUT: true; the input reads as it did. -/
def indexFlatSpec : ChangeSpec := { name := "indexFlat", fn := fun _ => fun
  | [d1, d2, d3] => { results := [.lit (.bool true)], args := [d1, d2, d3] }
  | _ => none }
def indexFlatRow : OpenClaim := { program := "ytpoidaenkjjdfaa", sum := "1ba7ff32d17b3db06fb088bde3b60d4903372235cc30bddd90ee58bb8de0e403", func := "treasury/treasurylaw36.IndexFlat", spec := "indexFlat", inPlace := ["slices.overlaps[treasury/api.Holding]"], unfollowed := true, recurses := true, apart := false }
def IndexFlatSaid : Prop := indexFlatRow.holds Try.pinned (OpenSpec.ofChange indexFlatSpec)

/-- ITS FALSE NEIGHBOUR: 'it returns false'. Refute it at one input. -/
def indexFlatWrong : ChangeSpec := { name := "indexFlat", fn := fun _ => fun
  | [d1, d2, d3] => { results := [.lit (.bool false)], args := [d1, d2, d3] }
  | _ => none }
def IndexFlatWrongFalsely : Prop := indexFlatRow.holds Try.pinned (OpenSpec.ofChange indexFlatWrong)

/-- 'treasurylaw39.RiskExact': WHATEVER THE INPUT: true; the input reads as it did. -/
def riskExactSpec : ChangeSpec := { name := "riskExact", fn := fun _ => fun
  | [d1, d2, d3, d4, d5, d6, d7] => { results := [.lit (.bool true)], args := [d1, d2, d3, d4, d5, d6, d7] }
  | _ => none }
def riskExactRow : OpenClaim := { program := "ytpoidaenkjjdfaa", sum := "1ba7ff32d17b3db06fb088bde3b60d4903372235cc30bddd90ee58bb8de0e403", func := "treasury/treasurylaw39.RiskExact", spec := "riskExact", inPlace := ["slices.overlaps[treasury/api.Holding]"], unfollowed := true, recurses := true, apart := false }
def RiskExactSaid : Prop := riskExactRow.holds Try.pinned (OpenSpec.ofChange riskExactSpec)

/-- ITS FALSE NEIGHBOUR: 'it returns false'. Refute it at one input. -/
def riskExactWrong : ChangeSpec := { name := "riskExact", fn := fun _ => fun
  | [d1, d2, d3, d4, d5, d6, d7] => { results := [.lit (.bool false)], args := [d1, d2, d3, d4, d5, d6, d7] }
  | _ => none }
def RiskExactWrongFalsely : Prop := riskExactRow.holds Try.pinned (OpenSpec.ofChange riskExactWrong)

/-- 'treasurylaw34.CouponFlows': WHATEVER THE INPUT: true; the input reads as it did. -/
def couponFlowsSpec : ChangeSpec := { name := "couponFlows", fn := fun _ => fun
  | [d] => { results := [.lit (.bool true)], args := [d] }
  | _ => none }
def couponFlowsRow : OpenClaim := { program := "ytpoidaenkjjdfaa", sum := "1ba7ff32d17b3db06fb088bde3b60d4903372235cc30bddd90ee58bb8de0e403", func := "treasury/treasurylaw34.CouponFlows", spec := "couponFlows", inPlace := ["slices.overlaps[treasury/api.Holding]"], unfollowed := true, recurses := true, apart := false }
def CouponFlowsSaid : Prop := couponFlowsRow.holds Try.pinned (OpenSpec.ofChange couponFlowsSpec)

/-- ITS FALSE NEIGHBOUR: 'it returns false'. Refute it at one input. -/
def couponFlowsWrong : ChangeSpec := { name := "couponFlows", fn := fun _ => fun
  | [d] => { results := [.lit (.bool false)], args := [d] }
  | _ => none }
def CouponFlowsWrongFalsely : Prop := couponFlowsRow.holds Try.pinned (OpenSpec.ofChange couponFlowsWrong)

/- THE SECOND FORM. 'bulk': how many values and letters a reading holds, each counted each time it is reached (what is shared counts as often as it is met; a slice's spare places count too). A statement '..UptoSaid' is the law's where the arguments, and the package variables that the reading takes, are together of bulk at most 1048576: NARROWER than '..Said'. Prove '..Said' where nothing that the law and all that it calls make is longer than what came in: it says more and counts as full. Else prove '..UptoSaid'. A law counts once. -/
mutual
def uptoBulk {H : Type} : DataW H → Nat
  | .lit (.string bytes) => bytes.length + 1
  | .lit _ => 1
  | .nil => 1
  | .ptr d => uptoBulk d + 1
  | .slice elems spare => uptoBulkAll elems + uptoBulkAll spare + 1
  | .agg parts => uptoBulkAll parts + 1
  | .iface _ d => uptoBulk d + 1
  | .map entries => uptoBulkEntries entries + 1
  | .held _ => 1
def uptoBulkAll {H : Type} : List (DataW H) → Nat
  | [] => 0
  | d :: r => uptoBulk d + uptoBulkAll r
def uptoBulkEntries {H : Type} : List (Lit × DataW H) → Nat
  | [] => 0
  | x :: r => uptoBulkEntry x + uptoBulkEntries r
def uptoBulkEntry {H : Type} : Lit × DataW H → Nat
  | (.string bytes, d) => bytes.length + uptoBulk d + 1
  | (_, d) => uptoBulk d + 1
 end
def uptoSmall : (H : Type) → List (DataW H) → Bool := fun _ ds => decide (uptoBulkAll ds ≤ 1048576)
def OpenSpec.upto (s : _root_.Go.ChangeSpec) : _root_.Go.OpenSpec := { _root_.Go.OpenSpec.ofChange s with cond := some uptoSmall }

/-- 'treasurylaw33.RegisterExact', WHERE WHAT IT READS IS OF BULK AT MOST 1048576: true; the input reads as it did. -/
def registerExactUptoRow : OpenClaim := { program := "ytpoidaenkjjdfaa", sum := "1ba7ff32d17b3db06fb088bde3b60d4903372235cc30bddd90ee58bb8de0e403", func := "treasury/treasurylaw33.RegisterExact", spec := "registerExact", inPlace := ["slices.overlaps[treasury/api.Holding]", "slices.overlaps[treasury/api.Security]"], unfollowed := true, recurses := true, apart := false, narrowed := true }
def RegisterExactUptoSaid : Prop := registerExactUptoRow.holds Try.pinned (OpenSpec.upto registerExactSpec)

/-- 'treasurylaw36.IndexFlat', WHERE WHAT IT READS IS OF BULK AT MOST 1048576: true; the input reads as it did. -/
def indexFlatUptoRow : OpenClaim := { program := "ytpoidaenkjjdfaa", sum := "1ba7ff32d17b3db06fb088bde3b60d4903372235cc30bddd90ee58bb8de0e403", func := "treasury/treasurylaw36.IndexFlat", spec := "indexFlat", inPlace := ["slices.overlaps[treasury/api.Holding]"], unfollowed := true, recurses := true, apart := false, narrowed := true }
def IndexFlatUptoSaid : Prop := indexFlatUptoRow.holds Try.pinned (OpenSpec.upto indexFlatSpec)

/-- 'treasurylaw39.RiskExact', WHERE WHAT IT READS IS OF BULK AT MOST 1048576: true; the input reads as it did. -/
def riskExactUptoRow : OpenClaim := { program := "ytpoidaenkjjdfaa", sum := "1ba7ff32d17b3db06fb088bde3b60d4903372235cc30bddd90ee58bb8de0e403", func := "treasury/treasurylaw39.RiskExact", spec := "riskExact", inPlace := ["slices.overlaps[treasury/api.Holding]"], unfollowed := true, recurses := true, apart := false, narrowed := true }
def RiskExactUptoSaid : Prop := riskExactUptoRow.holds Try.pinned (OpenSpec.upto riskExactSpec)

/-- 'treasurylaw34.CouponFlows', WHERE WHAT IT READS IS OF BULK AT MOST 1048576: true; the input reads as it did. -/
def couponFlowsUptoRow : OpenClaim := { program := "ytpoidaenkjjdfaa", sum := "1ba7ff32d17b3db06fb088bde3b60d4903372235cc30bddd90ee58bb8de0e403", func := "treasury/treasurylaw34.CouponFlows", spec := "couponFlows", inPlace := ["slices.overlaps[treasury/api.Holding]"], unfollowed := true, recurses := true, apart := false, narrowed := true }
def CouponFlowsUptoSaid : Prop := couponFlowsUptoRow.holds Try.pinned (OpenSpec.upto couponFlowsSpec)

end Rows
end Go.Proofs.Ytpoidaenkjjdfaa
