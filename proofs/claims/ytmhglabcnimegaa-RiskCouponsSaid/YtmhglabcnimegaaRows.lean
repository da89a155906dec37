/-
  No cell of these rows narrows 'for every input' (looked for: loops, veiled, ifaces, maps, wideKeys, modest, calm, conditions, laid).
  DERIVED. THE GIVEN ROWS OF THIS SEAT. 11 by the template 'for every input the law returns true; each argument reads behind the call as it read before'; 0 by the template 'total and deterministic' (their statements: YtmhglabcnimegaaTotals.lean).
  GIVEN WITH THE SEED: the statements are not yours to turn. If you find one false, say at which input.
  Laid BY PROGRAM, IN A SANDBOX (cutbox-rows.mjs): the forced cells as the released guide's own fill.sh prints them over the translation b2489568ad69dc8c… (all of the seat's roots in one cut). By AI agents, Wed Nov 11 2026. No macro, syntax, notation, axiom, sorry.
-/
import Derived.Test.YtmhglabcnimegaaChecked
import GoSem.Claim
import GoSem.ClaimJoined
import GoSem.ClaimMapViews
import Derived.JoinedTies
import Derived.KernelRfl
namespace Go.Proofs.Ytmhglabcnimegaa
/- THE CELL 'sum', in the pinned program and in every row, IS THE sha256 OF THE DUMP (.gsa) THAT YtmhglabcnimegaaProg.lean LOADS. Nothing in Lean hashes anything: it is a label: what it is worth is what the hold of that sum in a sandbox is worth. -/
noncomputable def Try.pinned : Pinned := { name := "ytmhglabcnimegaa", sum := "b2489568ad69dc8cf246e80a5c1d5667c6dc999967c7d606fbc2f08a3f00bea1", checked := Try.checked }
namespace Rows
def none {H : Type} : Left H := { results := [], args := [] }

/-- 'treasurylaw35.ReopeningSwaps': WHATEVER THE INPUT: true; the input reads as it did. -/
def reopeningSwapsSpec : ChangeSpec := { name := "reopeningSwaps", fn := fun _ => fun
  | [d] => { results := [.lit (.bool true)], args := [d] }
  | _ => none }
def reopeningSwapsRow : OpenClaim := { program := "ytmhglabcnimegaa", sum := "b2489568ad69dc8cf246e80a5c1d5667c6dc999967c7d606fbc2f08a3f00bea1", func := "treasury/treasurylaw35.ReopeningSwaps", spec := "reopeningSwaps", inPlace := ["slices.overlaps[treasury/api.Holding]"], unfollowed := true, recurses := true, apart := false }
def ReopeningSwapsSaid : Prop := reopeningSwapsRow.holds Try.pinned (OpenSpec.ofChange reopeningSwapsSpec)

/-- ITS FALSE NEIGHBOUR: 'it returns false'. Refute it at one input. -/
def reopeningSwapsWrong : ChangeSpec := { name := "reopeningSwaps", fn := fun _ => fun
  | [d] => { results := [.lit (.bool false)], args := [d] }
  | _ => none }
def ReopeningSwapsWrongFalsely : Prop := reopeningSwapsRow.holds Try.pinned (OpenSpec.ofChange reopeningSwapsWrong)

/-- 'treasurylaw33.RegisterExact': WHATEVER THE INPUT: true; the input reads as it did. -/
def registerExactSpec : ChangeSpec := { name := "registerExact", fn := fun _ => fun
  | [d1, d2, d3, d4, d5, d6, d7, d8] => { results := [.lit (.bool true)], args := [d1, d2, d3, d4, d5, d6, d7, d8] }
  | _ => none }
def registerExactRow : OpenClaim := { program := "ytmhglabcnimegaa", sum := "b2489568ad69dc8cf246e80a5c1d5667c6dc999967c7d606fbc2f08a3f00bea1", func := "treasury/treasurylaw33.RegisterExact", spec := "registerExact", inPlace := ["slices.overlaps[treasury/api.Holding]", "slices.overlaps[treasury/api.Security]"], unfollowed := true, recurses := true, apart := false }
def RegisterExactSaid : Prop := registerExactRow.holds Try.pinned (OpenSpec.ofChange registerExactSpec)

/-- ITS FALSE NEIGHBOUR: 'it returns false'. Refute it at one input. -/
def registerExactWrong : ChangeSpec := { name := "registerExact", fn := fun _ => fun
  | [d1, d2, d3, d4, d5, d6, d7, d8] => { results := [.lit (.bool false)], args := [d1, d2, d3, d4, d5, d6, d7, d8] }
  | _ => none }
def RegisterExactWrongFalsely : Prop := registerExactRow.holds Try.pinned (OpenSpec.ofChange registerExactWrong)

/-- 'treasurylaw39.RiskDebt': WHATEVER THE INPUT: true; the input reads as it did. -/
def riskDebtSpec : ChangeSpec := { name := "riskDebt", fn := fun _ => fun
  | [d] => { results := [.lit (.bool true)], args := [d] }
  | _ => none }
def riskDebtRow : OpenClaim := { program := "ytmhglabcnimegaa", sum := "b2489568ad69dc8cf246e80a5c1d5667c6dc999967c7d606fbc2f08a3f00bea1", func := "treasury/treasurylaw39.RiskDebt", spec := "riskDebt", inPlace := ["slices.overlaps[treasury/api.Holding]"], unfollowed := true, recurses := true, apart := false }
def RiskDebtSaid : Prop := riskDebtRow.holds Try.pinned (OpenSpec.ofChange riskDebtSpec)

/-- ITS FALSE NEIGHBOUR: 'it returns false'. Refute it at one input. -/
def riskDebtWrong : ChangeSpec := { name := "riskDebt", fn := fun _ => fun
  | [d] => { results := [.lit (.bool false)], args := [d] }
  | _ => none }
def RiskDebtWrongFalsely : Prop := riskDebtRow.holds Try.pinned (OpenSpec.ofChange riskDebtWrong)

/-- 'treasurylaw39.RiskCoupons': WHATEVER THE INPUT: true; the input reads as it did. -/
def riskCouponsSpec : ChangeSpec := { name := "riskCoupons", fn := fun _ => fun
  | [d] => { results := [.lit (.bool true)], args := [d] }
  | _ => none }
def riskCouponsRow : OpenClaim := { program := "ytmhglabcnimegaa", sum := "b2489568ad69dc8cf246e80a5c1d5667c6dc999967c7d606fbc2f08a3f00bea1", func := "treasury/treasurylaw39.RiskCoupons", spec := "riskCoupons", inPlace := ["slices.overlaps[treasury/api.Holding]"], unfollowed := true, recurses := true, apart := false }
def RiskCouponsSaid : Prop := riskCouponsRow.holds Try.pinned (OpenSpec.ofChange riskCouponsSpec)

/-- ITS FALSE NEIGHBOUR: 'it returns false'. Refute it at one input. -/
def riskCouponsWrong : ChangeSpec := { name := "riskCoupons", fn := fun _ => fun
  | [d] => { results := [.lit (.bool false)], args := [d] }
  | _ => none }
def RiskCouponsWrongFalsely : Prop := riskCouponsRow.holds Try.pinned (OpenSpec.ofChange riskCouponsWrong)

/-- 'treasurylaw34.CouponPending': WHATEVER THE INPUT: true; the input reads as it did. -/
def couponPendingSpec : ChangeSpec := { name := "couponPending", fn := fun _ => fun
  | [d] => { results := [.lit (.bool true)], args := [d] }
  | _ => none }
def couponPendingRow : OpenClaim := { program := "ytmhglabcnimegaa", sum := "b2489568ad69dc8cf246e80a5c1d5667c6dc999967c7d606fbc2f08a3f00bea1", func := "treasury/treasurylaw34.CouponPending", spec := "couponPending", inPlace := ["slices.overlaps[treasury/api.Holding]"], unfollowed := true, recurses := true, apart := false }
def CouponPendingSaid : Prop := couponPendingRow.holds Try.pinned (OpenSpec.ofChange couponPendingSpec)

/-- ITS FALSE NEIGHBOUR: 'it returns false'. Refute it at one input. -/
def couponPendingWrong : ChangeSpec := { name := "couponPending", fn := fun _ => fun
  | [d] => { results := [.lit (.bool false)], args := [d] }
  | _ => none }
def CouponPendingWrongFalsely : Prop := couponPendingRow.holds Try.pinned (OpenSpec.ofChange couponPendingWrong)

/-- 'treasurylaw39.RiskOlder': WHATEVER THE INPUT: true; the input reads as it did. -/
def riskOlderSpec : ChangeSpec := { name := "riskOlder", fn := fun _ => fun
  | [d] => { results := [.lit (.bool true)], args := [d] }
  | _ => none }
def riskOlderRow : OpenClaim := { program := "ytmhglabcnimegaa", sum := "b2489568ad69dc8cf246e80a5c1d5667c6dc999967c7d606fbc2f08a3f00bea1", func := "treasury/treasurylaw39.RiskOlder", spec := "riskOlder", inPlace := ["slices.overlaps[treasury/api.Holding]"], unfollowed := true, recurses := true, apart := false }
def RiskOlderSaid : Prop := riskOlderRow.holds Try.pinned (OpenSpec.ofChange riskOlderSpec)

/-- ITS FALSE NEIGHBOUR: 'it returns false'. Refute it at one input. -/
def riskOlderWrong : ChangeSpec := { name := "riskOlder", fn := fun _ => fun
  | [d] => { results := [.lit (.bool false)], args := [d] }
  | _ => none }
def RiskOlderWrongFalsely : Prop := riskOlderRow.holds Try.pinned (OpenSpec.ofChange riskOlderWrong)

/-- 'treasurylaw39.RiskRates': WHATEVER THE INPUT: true; the input reads as it did. -/
def riskRatesSpec : ChangeSpec := { name := "riskRates", fn := fun _ => fun
  | [d1, d2] => { results := [.lit (.bool true)], args := [d1, d2] }
  | _ => none }
def riskRatesRow : OpenClaim := { program := "ytmhglabcnimegaa", sum := "b2489568ad69dc8cf246e80a5c1d5667c6dc999967c7d606fbc2f08a3f00bea1", func := "treasury/treasurylaw39.RiskRates", spec := "riskRates", inPlace := ["slices.overlaps[treasury/api.Holding]"], unfollowed := true, recurses := true, apart := false }
def RiskRatesSaid : Prop := riskRatesRow.holds Try.pinned (OpenSpec.ofChange riskRatesSpec)

/-- ITS FALSE NEIGHBOUR: 'it returns false'. Refute it at one input. -/
def riskRatesWrong : ChangeSpec := { name := "riskRates", fn := fun _ => fun
  | [d1, d2] => { results := [.lit (.bool false)], args := [d1, d2] }
  | _ => none }
def RiskRatesWrongFalsely : Prop := riskRatesRow.holds Try.pinned (OpenSpec.ofChange riskRatesWrong)

/-- 'treasurylaw39.RiskFalls': WHATEVER THE INPUT: true; the input reads as it did. -/
def riskFallsSpec : ChangeSpec := { name := "riskFalls", fn := fun _ => fun
  | [d] => { results := [.lit (.bool true)], args := [d] }
  | _ => none }
def riskFallsRow : OpenClaim := { program := "ytmhglabcnimegaa", sum := "b2489568ad69dc8cf246e80a5c1d5667c6dc999967c7d606fbc2f08a3f00bea1", func := "treasury/treasurylaw39.RiskFalls", spec := "riskFalls", inPlace := ["slices.overlaps[treasury/api.Holding]"], unfollowed := true, recurses := true, apart := false }
def RiskFallsSaid : Prop := riskFallsRow.holds Try.pinned (OpenSpec.ofChange riskFallsSpec)

/-- ITS FALSE NEIGHBOUR: 'it returns false'. Refute it at one input. -/
def riskFallsWrong : ChangeSpec := { name := "riskFalls", fn := fun _ => fun
  | [d] => { results := [.lit (.bool false)], args := [d] }
  | _ => none }
def RiskFallsWrongFalsely : Prop := riskFallsRow.holds Try.pinned (OpenSpec.ofChange riskFallsWrong)

/-- 'treasurylaw36.IndexFlat': WHATEVER THE INPUT: true; the input reads as it did. -/
def indexFlatSpec : ChangeSpec := { name := "indexFlat", fn := fun _ => fun
  | [d1, d2, d3] => { results := [.lit (.bool true)], args := [d1, d2, d3] }
  | _ => none }
def indexFlatRow : OpenClaim := { program := "ytmhglabcnimegaa", sum := "b2489568ad69dc8cf246e80a5c1d5667c6dc999967c7d606fbc2f08a3f00bea1", func := "treasury/treasurylaw36.IndexFlat", spec := "indexFlat", inPlace := ["slices.overlaps[treasury/api.Holding]"], unfollowed := true, recurses := true, apart := false }
def IndexFlatSaid : Prop := indexFlatRow.holds Try.pinned (OpenSpec.ofChange indexFlatSpec)

/-- ITS FALSE NEIGHBOUR: 'it returns false'. Refute it at one input. -/
def indexFlatWrong : ChangeSpec := { name := "indexFlat", fn := fun _ => fun
  | [d1, d2, d3] => { results := [.lit (.bool false)], args := [d1, d2, d3] }
  | _ => none }
def IndexFlatWrongFalsely : Prop := indexFlatRow.holds Try.pinned (OpenSpec.ofChange indexFlatWrong)

/-- 'treasurylaw36.IndexDues': WHATEVER THE INPUT: true; the input reads as it did. -/
def indexDuesSpec : ChangeSpec := { name := "indexDues", fn := fun _ => fun
  | [d] => { results := [.lit (.bool true)], args := [d] }
  | _ => none }
def indexDuesRow : OpenClaim := { program := "ytmhglabcnimegaa", sum := "b2489568ad69dc8cf246e80a5c1d5667c6dc999967c7d606fbc2f08a3f00bea1", func := "treasury/treasurylaw36.IndexDues", spec := "indexDues", inPlace := ["slices.overlaps[treasury/api.Holding]"], unfollowed := true, recurses := true, apart := false }
def IndexDuesSaid : Prop := indexDuesRow.holds Try.pinned (OpenSpec.ofChange indexDuesSpec)

/-- ITS FALSE NEIGHBOUR: 'it returns false'. Refute it at one input. -/
def indexDuesWrong : ChangeSpec := { name := "indexDues", fn := fun _ => fun
  | [d] => { results := [.lit (.bool false)], args := [d] }
  | _ => none }
def IndexDuesWrongFalsely : Prop := indexDuesRow.holds Try.pinned (OpenSpec.ofChange indexDuesWrong)

/-- 'treasurylaw39.RiskExact': WHATEVER THE INPUT: true; the input reads as it did. -/
def riskExactSpec : ChangeSpec := { name := "riskExact", fn := fun _ => fun
  | [d1, d2, d3, d4, d5, d6, d7] => { results := [.lit (.bool true)], args := [d1, d2, d3, d4, d5, d6, d7] }
  | _ => none }
def riskExactRow : OpenClaim := { program := "ytmhglabcnimegaa", sum := "b2489568ad69dc8cf246e80a5c1d5667c6dc999967c7d606fbc2f08a3f00bea1", func := "treasury/treasurylaw39.RiskExact", spec := "riskExact", inPlace := ["slices.overlaps[treasury/api.Holding]"], unfollowed := true, recurses := true, apart := false }
def RiskExactSaid : Prop := riskExactRow.holds Try.pinned (OpenSpec.ofChange riskExactSpec)

/-- ITS FALSE NEIGHBOUR: 'it returns false'. Refute it at one input. -/
def riskExactWrong : ChangeSpec := { name := "riskExact", fn := fun _ => fun
  | [d1, d2, d3, d4, d5, d6, d7] => { results := [.lit (.bool false)], args := [d1, d2, d3, d4, d5, d6, d7] }
  | _ => none }
def RiskExactWrongFalsely : Prop := riskExactRow.holds Try.pinned (OpenSpec.ofChange riskExactWrong)

/- THE SECOND FORM. 'bulk': how many values and letters a reading holds, each counted each time it is reached (what is shared counts as often as it is met; a slice's spare places count too). A statement '..UptoSaid' is the law's where the arguments, and the package variables that the reading takes, are together of bulk at most 1048576: NARROWER than '..Said'. Prove '..Said' where nothing that the law and all that it calls make is longer than what came in: it says more and counts as full. Else prove '..UptoSaid'. A law counts once. -/
mutual
def uptoBulk {H : Type} : DataW H → Nat
  | .lit (.string bytes) => bytes.length + 1
  | .lit _ => 1
  | .nil => 1
  | .ptr d => uptoBulk d + 1
  | .slice elems spare => uptoBulkAll elems + uptoBulkAll spare + 1
  | .agg parts => uptoBulkAll parts + 1
  | .iface _ d => uptoBulk d + 1
  | .map entries => uptoBulkEntries entries + 1
  | .held _ => 1
def uptoBulkAll {H : Type} : List (DataW H) → Nat
  | [] => 0
  | d :: r => uptoBulk d + uptoBulkAll r
def uptoBulkEntries {H : Type} : List (Lit × DataW H) → Nat
  | [] => 0
  | x :: r => uptoBulkEntry x + uptoBulkEntries r
def uptoBulkEntry {H : Type} : Lit × DataW H → Nat
  | (.string bytes, d) => bytes.length + uptoBulk d + 1
  | (_, d) => uptoBulk d + 1
 end
def uptoSmall : (H : Type) → List (DataW H) → Bool := fun _ ds => decide (uptoBulkAll ds ≤ 1048576)
def OpenSpec.upto (s : _root_.Go.ChangeSpec) : _root_.Go.OpenSpec := { _root_.Go.OpenSpec.ofChange s with cond := some uptoSmall }

/-- 'treasurylaw35.ReopeningSwaps', WHERE WHAT IT READS IS OF BULK AT MOST 1048576: true; the input reads as it did. -/
def reopeningSwapsUptoRow : OpenClaim := { program := "ytmhglabcnimegaa", sum := "b2489568ad69dc8cf246e80a5c1d5667c6dc999967c7d606fbc2f08a3f00bea1", func := "treasury/treasurylaw35.ReopeningSwaps", spec := "reopeningSwaps", inPlace := ["slices.overlaps[treasury/api.Holding]"], unfollowed := true, recurses := true, apart := false, narrowed := true }
def ReopeningSwapsUptoSaid : Prop := reopeningSwapsUptoRow.holds Try.pinned (OpenSpec.upto reopeningSwapsSpec)

/-- 'treasurylaw33.RegisterExact', WHERE WHAT IT READS IS OF BULK AT MOST 1048576: true; the input reads as it did. -/
def registerExactUptoRow : OpenClaim := { program := "ytmhglabcnimegaa", sum := "b2489568ad69dc8cf246e80a5c1d5667c6dc999967c7d606fbc2f08a3f00bea1", func := "treasury/treasurylaw33.RegisterExact", spec := "registerExact", inPlace := ["slices.overlaps[treasury/api.Holding]", "slices.overlaps[treasury/api.Security]"], unfollowed := true, recurses := true, apart := false, narrowed := true }
def RegisterExactUptoSaid : Prop := registerExactUptoRow.holds Try.pinned (OpenSpec.upto registerExactSpec)

/-- 'treasurylaw39.RiskDebt', WHERE WHAT IT READS IS OF BULK AT MOST 1048576: true; the input reads as it did. -/
def riskDebtUptoRow : OpenClaim := { program := "ytmhglabcnimegaa", sum := "b2489568ad69dc8cf246e80a5c1d5667c6dc999967c7d606fbc2f08a3f00bea1", func := "treasury/treasurylaw39.RiskDebt", spec := "riskDebt", inPlace := ["slices.overlaps[treasury/api.Holding]"], unfollowed := true, recurses := true, apart := false, narrowed := true }
def RiskDebtUptoSaid : Prop := riskDebtUptoRow.holds Try.pinned (OpenSpec.upto riskDebtSpec)

/-- 'treasurylaw39.RiskCoupons', WHERE WHAT IT READS IS OF BULK AT MOST 1048576: true; the input reads as it did. -/
def riskCouponsUptoRow : OpenClaim := { program := "ytmhglabcnimegaa", sum := "b2489568ad69dc8cf246e80a5c1d5667c6dc999967c7d606fbc2f08a3f00bea1", func := "treasury/treasurylaw39.RiskCoupons", spec := "riskCoupons", inPlace := ["slices.overlaps[treasury/api.Holding]"], unfollowed := true, recurses := true, apart := false, narrowed := true }
def RiskCouponsUptoSaid : Prop := riskCouponsUptoRow.holds Try.pinned (OpenSpec.upto riskCouponsSpec)

/-- 'treasurylaw34.CouponPending', WHERE WHAT IT READS IS OF BULK AT MOST 1048576: true; the input reads as it did. -/
def couponPendingUptoRow : OpenClaim := { program := "ytmhglabcnimegaa", sum := "b2489568ad69dc8cf246e80a5c1d5667c6dc999967c7d606fbc2f08a3f00bea1", func := "treasury/treasurylaw34.CouponPending", spec := "couponPending", inPlace := ["slices.overlaps[treasury/api.Holding]"], unfollowed := true, recurses := true, apart := false, narrowed := true }
def CouponPendingUptoSaid : Prop := couponPendingUptoRow.holds Try.pinned (OpenSpec.upto couponPendingSpec)

/-- 'treasurylaw39.RiskOlder', WHERE WHAT IT READS IS OF BULK AT MOST 1048576: true; the input reads as it did. -/
def riskOlderUptoRow : OpenClaim := { program := "ytmhglabcnimegaa", sum := "b2489568ad69dc8cf246e80a5c1d5667c6dc999967c7d606fbc2f08a3f00bea1", func := "treasury/treasurylaw39.RiskOlder", spec := "riskOlder", inPlace := ["slices.overlaps[treasury/api.Holding]"], unfollowed := true, recurses := true, apart := false, narrowed := true }
def RiskOlderUptoSaid : Prop := riskOlderUptoRow.holds Try.pinned (OpenSpec.upto riskOlderSpec)

/-- 'treasurylaw39.RiskRates', WHERE WHAT IT READS IS OF BULK AT MOST 1048576: true; the input reads as it did. -/
def riskRatesUptoRow : OpenClaim := { program := "ytmhglabcnimegaa", sum := "b2489568ad69dc8cf246e80a5c1d5667c6dc999967c7d606fbc2f08a3f00bea1", func := "treasury/treasurylaw39.RiskRates", spec := "riskRates", inPlace := ["slices.overlaps[treasury/api.Holding]"], unfollowed := true, recurses := true, apart := false, narrowed := true }
def RiskRatesUptoSaid : Prop := riskRatesUptoRow.holds Try.pinned (OpenSpec.upto riskRatesSpec)

/-- 'treasurylaw39.RiskFalls', WHERE WHAT IT READS IS OF BULK AT MOST 1048576: true; the input reads as it did. -/
def riskFallsUptoRow : OpenClaim := { program := "ytmhglabcnimegaa", sum := "b2489568ad69dc8cf246e80a5c1d5667c6dc999967c7d606fbc2f08a3f00bea1", func := "treasury/treasurylaw39.RiskFalls", spec := "riskFalls", inPlace := ["slices.overlaps[treasury/api.Holding]"], unfollowed := true, recurses := true, apart := false, narrowed := true }
def RiskFallsUptoSaid : Prop := riskFallsUptoRow.holds Try.pinned (OpenSpec.upto riskFallsSpec)

/-- 'treasurylaw36.IndexFlat', WHERE WHAT IT READS IS OF BULK AT MOST 1048576: true; the input reads as it did. -/
def indexFlatUptoRow : OpenClaim := { program := "ytmhglabcnimegaa", sum := "b2489568ad69dc8cf246e80a5c1d5667c6dc999967c7d606fbc2f08a3f00bea1", func := "treasury/treasurylaw36.IndexFlat", spec := "indexFlat", inPlace := ["slices.overlaps[treasury/api.Holding]"], unfollowed := true, recurses := true, apart := false, narrowed := true }
def IndexFlatUptoSaid : Prop := indexFlatUptoRow.holds Try.pinned (OpenSpec.upto indexFlatSpec)

/-- 'treasurylaw36.IndexDues', WHERE WHAT IT READS IS OF BULK AT MOST 1048576: true; the input reads as it did. -/
def indexDuesUptoRow : OpenClaim := { program := "ytmhglabcnimegaa", sum := "b2489568ad69dc8cf246e80a5c1d5667c6dc999967c7d606fbc2f08a3f00bea1", func := "treasury/treasurylaw36.IndexDues", spec := "indexDues", inPlace := ["slices.overlaps[treasury/api.Holding]"], unfollowed := true, recurses := true, apart := false, narrowed := true }
def IndexDuesUptoSaid : Prop := indexDuesUptoRow.holds Try.pinned (OpenSpec.upto indexDuesSpec)

/-- 'treasurylaw39.RiskExact', WHERE WHAT IT READS IS OF BULK AT MOST 1048576: true; the input reads as it did. -/
def riskExactUptoRow : OpenClaim := { program := "ytmhglabcnimegaa", sum := "b2489568ad69dc8cf246e80a5c1d5667c6dc999967c7d606fbc2f08a3f00bea1", func := "treasury/treasurylaw39.RiskExact", spec := "riskExact", inPlace := ["slices.overlaps[treasury/api.Holding]"], unfollowed := true, recurses := true, apart := false, narrowed := true }
def RiskExactUptoSaid : Prop := riskExactUptoRow.holds Try.pinned (OpenSpec.upto riskExactSpec)

end Rows
end Go.Proofs.Ytmhglabcnimegaa
