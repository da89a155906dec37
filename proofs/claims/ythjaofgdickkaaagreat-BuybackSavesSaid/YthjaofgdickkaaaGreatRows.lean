/-
  No cell of these rows narrows 'for every input' (looked for: loops, veiled, ifaces, maps, wideKeys, modest, calm, conditions, laid).
  DERIVED. THE GIVEN ROWS OF THIS SEAT. 11 by the template 'for every input the law returns true; each argument reads behind the call as it read before'; 0 by the template 'total and deterministic' (their statements: YthjaofgdickkaaaGreatTotals.lean).
  GIVEN WITH THE SEED: the statements are not yours to turn. If you find one false, say at which input.
  Laid BY PROGRAM, IN A SANDBOX (cutbox-rows.mjs): the forced cells as the released guide's own fill.sh prints them over the translation a712b49277a48953… (all of the seat's roots in one cut). By AI agents, Wed Nov 11 2026. No macro, syntax, notation, axiom, sorry.
-/
import Derived.Test.YthjaofgdickkaaaGreatChecked
import GoSem.Claim
import GoSem.ClaimJoined
import GoSem.ClaimMapViews
import Derived.JoinedTies
import Derived.KernelRfl
namespace Go.Proofs.YthjaofgdickkaaaGreat
/- THE CELL 'sum', in the pinned program and in every row, IS THE sha256 OF THE DUMP (.gsa) THAT YthjaofgdickkaaaGreatProg.lean LOADS. Nothing in Lean hashes anything: it is a label: what it is worth is what the hold of that sum in a sandbox is worth. -/
noncomputable def Tryz.pinned : Pinned := { name := "ythjaofgdickkaaagreat", sum := "a712b49277a48953ff80f00956d5361d14b422accd30bba415e7ae2443e59dfc", checked := Tryz.checked }
namespace Rows
def none {H : Type} : Left H := { results := [], args := [] }

/-- 'treasurylaw36.IndexExact': WHATEVER THE INPUT: true; the input reads as it did. -/
def indexExactSpec : ChangeSpec := { name := "indexExact", fn := fun _ => fun
  | [d1, d2, d3, d4, d5, d6] => { results := [.lit (.bool true)], args := [d1, d2, d3, d4, d5, d6] }
  | _ => none }
def indexExactRow : OpenClaim := { program := "ythjaofgdickkaaagreat", sum := "a712b49277a48953ff80f00956d5361d14b422accd30bba415e7ae2443e59dfc", func := "treasury/treasurylaw36.IndexExact", spec := "indexExact", inPlace := ["slices.overlaps[treasury/api.Holding]"], unfollowed := true, recurses := true, plainKeys := false, apart := false }
def IndexExactSaid : Prop := indexExactRow.holds Tryz.pinned (OpenSpec.ofChange indexExactSpec)

/-- ITS FALSE NEIGHBOUR: 'it returns false'. Refute it at one input. -/
def indexExactWrong : ChangeSpec := { name := "indexExact", fn := fun _ => fun
  | [d1, d2, d3, d4, d5, d6] => { results := [.lit (.bool false)], args := [d1, d2, d3, d4, d5, d6] }
  | _ => none }
def IndexExactWrongFalsely : Prop := indexExactRow.holds Tryz.pinned (OpenSpec.ofChange indexExactWrong)

/-- 'treasurylaw37.StripRights': WHATEVER THE INPUT: true; the input reads as it did. -/
def stripRightsSpec : ChangeSpec := { name := "stripRights", fn := fun _ => fun
  | [d] => { results := [.lit (.bool true)], args := [d] }
  | _ => none }
def stripRightsRow : OpenClaim := { program := "ythjaofgdickkaaagreat", sum := "a712b49277a48953ff80f00956d5361d14b422accd30bba415e7ae2443e59dfc", func := "treasury/treasurylaw37.StripRights", spec := "stripRights", inPlace := ["slices.overlaps[treasury/api.Holding]", "slices.overlaps[treasury/api.Strip]"], unfollowed := true, recurses := true, plainKeys := false, apart := false }
def StripRightsSaid : Prop := stripRightsRow.holds Tryz.pinned (OpenSpec.ofChange stripRightsSpec)

/-- ITS FALSE NEIGHBOUR: 'it returns false'. Refute it at one input. -/
def stripRightsWrong : ChangeSpec := { name := "stripRights", fn := fun _ => fun
  | [d] => { results := [.lit (.bool false)], args := [d] }
  | _ => none }
def StripRightsWrongFalsely : Prop := stripRightsRow.holds Tryz.pinned (OpenSpec.ofChange stripRightsWrong)

/-- 'treasurylaw37.StripBack': WHATEVER THE INPUT: true; the input reads as it did. -/
def stripBackSpec : ChangeSpec := { name := "stripBack", fn := fun _ => fun
  | [d] => { results := [.lit (.bool true)], args := [d] }
  | _ => none }
def stripBackRow : OpenClaim := { program := "ythjaofgdickkaaagreat", sum := "a712b49277a48953ff80f00956d5361d14b422accd30bba415e7ae2443e59dfc", func := "treasury/treasurylaw37.StripBack", spec := "stripBack", inPlace := ["slices.overlaps[treasury/api.Holding]", "slices.overlaps[treasury/api.Strip]"], unfollowed := true, recurses := true, plainKeys := false, apart := false }
def StripBackSaid : Prop := stripBackRow.holds Tryz.pinned (OpenSpec.ofChange stripBackSpec)

/-- ITS FALSE NEIGHBOUR: 'it returns false'. Refute it at one input. -/
def stripBackWrong : ChangeSpec := { name := "stripBack", fn := fun _ => fun
  | [d] => { results := [.lit (.bool false)], args := [d] }
  | _ => none }
def StripBackWrongFalsely : Prop := stripBackRow.holds Tryz.pinned (OpenSpec.ofChange stripBackWrong)

/-- 'treasurylaw37.StripExact': WHATEVER THE INPUT: true; the input reads as it did. -/
def stripExactSpec : ChangeSpec := { name := "stripExact", fn := fun _ => fun
  | [d1, d2, d3, d4, d5, d6, d7, d8] => { results := [.lit (.bool true)], args := [d1, d2, d3, d4, d5, d6, d7, d8] }
  | _ => none }
def stripExactRow : OpenClaim := { program := "ythjaofgdickkaaagreat", sum := "a712b49277a48953ff80f00956d5361d14b422accd30bba415e7ae2443e59dfc", func := "treasury/treasurylaw37.StripExact", spec := "stripExact", inPlace := ["slices.overlaps[treasury/api.Holding]", "slices.overlaps[treasury/api.Strip]"], unfollowed := true, recurses := true, plainKeys := false, apart := false }
def StripExactSaid : Prop := stripExactRow.holds Tryz.pinned (OpenSpec.ofChange stripExactSpec)

/-- ITS FALSE NEIGHBOUR: 'it returns false'. Refute it at one input. -/
def stripExactWrong : ChangeSpec := { name := "stripExact", fn := fun _ => fun
  | [d1, d2, d3, d4, d5, d6, d7, d8] => { results := [.lit (.bool false)], args := [d1, d2, d3, d4, d5, d6, d7, d8] }
  | _ => none }
def StripExactWrongFalsely : Prop := stripExactRow.holds Tryz.pinned (OpenSpec.ofChange stripExactWrong)

/-- 'treasurylaw34.CouponExact': WHATEVER THE INPUT: true; the input reads as it did. -/
def couponExactSpec : ChangeSpec := { name := "couponExact", fn := fun _ => fun
  | [d1, d2, d3, d4, d5, d6, d7] => { results := [.lit (.bool true)], args := [d1, d2, d3, d4, d5, d6, d7] }
  | _ => none }
def couponExactRow : OpenClaim := { program := "ythjaofgdickkaaagreat", sum := "a712b49277a48953ff80f00956d5361d14b422accd30bba415e7ae2443e59dfc", func := "treasury/treasurylaw34.CouponExact", spec := "couponExact", inPlace := ["slices.overlaps[treasury/api.Holding]"], unfollowed := true, recurses := true, plainKeys := false, apart := false }
def CouponExactSaid : Prop := couponExactRow.holds Tryz.pinned (OpenSpec.ofChange couponExactSpec)

/-- ITS FALSE NEIGHBOUR: 'it returns false'. Refute it at one input. -/
def couponExactWrong : ChangeSpec := { name := "couponExact", fn := fun _ => fun
  | [d1, d2, d3, d4, d5, d6, d7] => { results := [.lit (.bool false)], args := [d1, d2, d3, d4, d5, d6, d7] }
  | _ => none }
def CouponExactWrongFalsely : Prop := couponExactRow.holds Tryz.pinned (OpenSpec.ofChange couponExactWrong)

/-- 'treasurylaw38.BuybackSaves': WHATEVER THE INPUT: true; the input reads as it did. -/
def buybackSavesSpec : ChangeSpec := { name := "buybackSaves", fn := fun _ => fun
  | [d1, d2] => { results := [.lit (.bool true)], args := [d1, d2] }
  | _ => none }
def buybackSavesRow : OpenClaim := { program := "ythjaofgdickkaaagreat", sum := "a712b49277a48953ff80f00956d5361d14b422accd30bba415e7ae2443e59dfc", func := "treasury/treasurylaw38.BuybackSaves", spec := "buybackSaves", inPlace := ["slices.overlaps[treasury/api.Holding]"], unfollowed := true, recurses := true, plainKeys := false, apart := false }
def BuybackSavesSaid : Prop := buybackSavesRow.holds Tryz.pinned (OpenSpec.ofChange buybackSavesSpec)

/-- ITS FALSE NEIGHBOUR: 'it returns false'. Refute it at one input. -/
def buybackSavesWrong : ChangeSpec := { name := "buybackSaves", fn := fun _ => fun
  | [d1, d2] => { results := [.lit (.bool false)], args := [d1, d2] }
  | _ => none }
def BuybackSavesWrongFalsely : Prop := buybackSavesRow.holds Tryz.pinned (OpenSpec.ofChange buybackSavesWrong)

/-- 'treasurylaw38.BuybackRetires': WHATEVER THE INPUT: true; the input reads as it did. -/
def buybackRetiresSpec : ChangeSpec := { name := "buybackRetires", fn := fun _ => fun
  | [d1, d2] => { results := [.lit (.bool true)], args := [d1, d2] }
  | _ => none }
def buybackRetiresRow : OpenClaim := { program := "ythjaofgdickkaaagreat", sum := "a712b49277a48953ff80f00956d5361d14b422accd30bba415e7ae2443e59dfc", func := "treasury/treasurylaw38.BuybackRetires", spec := "buybackRetires", inPlace := ["slices.overlaps[treasury/api.Holding]"], unfollowed := true, recurses := true, plainKeys := false, apart := false }
def BuybackRetiresSaid : Prop := buybackRetiresRow.holds Tryz.pinned (OpenSpec.ofChange buybackRetiresSpec)

/-- ITS FALSE NEIGHBOUR: 'it returns false'. Refute it at one input. -/
def buybackRetiresWrong : ChangeSpec := { name := "buybackRetires", fn := fun _ => fun
  | [d1, d2] => { results := [.lit (.bool false)], args := [d1, d2] }
  | _ => none }
def BuybackRetiresWrongFalsely : Prop := buybackRetiresRow.holds Tryz.pinned (OpenSpec.ofChange buybackRetiresWrong)

/-- 'treasurylaw38.BuybackExact': WHATEVER THE INPUT: true; the input reads as it did. -/
def buybackExactSpec : ChangeSpec := { name := "buybackExact", fn := fun _ => fun
  | [d1, d2, d3, d4, d5, d6, d7, d8] => { results := [.lit (.bool true)], args := [d1, d2, d3, d4, d5, d6, d7, d8] }
  | _ => none }
def buybackExactRow : OpenClaim := { program := "ythjaofgdickkaaagreat", sum := "a712b49277a48953ff80f00956d5361d14b422accd30bba415e7ae2443e59dfc", func := "treasury/treasurylaw38.BuybackExact", spec := "buybackExact", inPlace := ["slices.overlaps[treasury/api.Holding]"], unfollowed := true, recurses := true, plainKeys := false, apart := false }
def BuybackExactSaid : Prop := buybackExactRow.holds Tryz.pinned (OpenSpec.ofChange buybackExactSpec)

/-- ITS FALSE NEIGHBOUR: 'it returns false'. Refute it at one input. -/
def buybackExactWrong : ChangeSpec := { name := "buybackExact", fn := fun _ => fun
  | [d1, d2, d3, d4, d5, d6, d7, d8] => { results := [.lit (.bool false)], args := [d1, d2, d3, d4, d5, d6, d7, d8] }
  | _ => none }
def BuybackExactWrongFalsely : Prop := buybackExactRow.holds Tryz.pinned (OpenSpec.ofChange buybackExactWrong)

/-- 'treasurylaw35.ReopeningIssues': WHATEVER THE INPUT: true; the input reads as it did. -/
def reopeningIssuesSpec : ChangeSpec := { name := "reopeningIssues", fn := fun _ => fun
  | [d1, d2] => { results := [.lit (.bool true)], args := [d1, d2] }
  | _ => none }
def reopeningIssuesRow : OpenClaim := { program := "ythjaofgdickkaaagreat", sum := "a712b49277a48953ff80f00956d5361d14b422accd30bba415e7ae2443e59dfc", func := "treasury/treasurylaw35.ReopeningIssues", spec := "reopeningIssues", inPlace := ["slices.overlaps[treasury/api.Holding]"], unfollowed := true, recurses := true, plainKeys := false, apart := false }
def ReopeningIssuesSaid : Prop := reopeningIssuesRow.holds Tryz.pinned (OpenSpec.ofChange reopeningIssuesSpec)

/-- ITS FALSE NEIGHBOUR: 'it returns false'. Refute it at one input. -/
def reopeningIssuesWrong : ChangeSpec := { name := "reopeningIssues", fn := fun _ => fun
  | [d1, d2] => { results := [.lit (.bool false)], args := [d1, d2] }
  | _ => none }
def ReopeningIssuesWrongFalsely : Prop := reopeningIssuesRow.holds Tryz.pinned (OpenSpec.ofChange reopeningIssuesWrong)

/-- 'treasurylaw35.ReopeningAgain': WHATEVER THE INPUT: true; the input reads as it did. -/
def reopeningAgainSpec : ChangeSpec := { name := "reopeningAgain", fn := fun _ => fun
  | [d1, d2, d3] => { results := [.lit (.bool true)], args := [d1, d2, d3] }
  | _ => none }
def reopeningAgainRow : OpenClaim := { program := "ythjaofgdickkaaagreat", sum := "a712b49277a48953ff80f00956d5361d14b422accd30bba415e7ae2443e59dfc", func := "treasury/treasurylaw35.ReopeningAgain", spec := "reopeningAgain", inPlace := ["slices.overlaps[treasury/api.Holding]"], unfollowed := true, recurses := true, plainKeys := false, apart := false }
def ReopeningAgainSaid : Prop := reopeningAgainRow.holds Tryz.pinned (OpenSpec.ofChange reopeningAgainSpec)

/-- ITS FALSE NEIGHBOUR: 'it returns false'. Refute it at one input. -/
def reopeningAgainWrong : ChangeSpec := { name := "reopeningAgain", fn := fun _ => fun
  | [d1, d2, d3] => { results := [.lit (.bool false)], args := [d1, d2, d3] }
  | _ => none }
def ReopeningAgainWrongFalsely : Prop := reopeningAgainRow.holds Tryz.pinned (OpenSpec.ofChange reopeningAgainWrong)

/-- 'treasurylaw35.ReopeningExact': WHATEVER THE INPUT: true; the input reads as it did. -/
def reopeningExactSpec : ChangeSpec := { name := "reopeningExact", fn := fun _ => fun
  | [d1, d2, d3, d4, d5, d6, d7, d8, d9, d10, d11] => { results := [.lit (.bool true)], args := [d1, d2, d3, d4, d5, d6, d7, d8, d9, d10, d11] }
  | _ => none }
def reopeningExactRow : OpenClaim := { program := "ythjaofgdickkaaagreat", sum := "a712b49277a48953ff80f00956d5361d14b422accd30bba415e7ae2443e59dfc", func := "treasury/treasurylaw35.ReopeningExact", spec := "reopeningExact", inPlace := ["slices.overlaps[treasury/api.Holding]"], unfollowed := true, recurses := true, plainKeys := false, apart := false }
def ReopeningExactSaid : Prop := reopeningExactRow.holds Tryz.pinned (OpenSpec.ofChange reopeningExactSpec)

/-- ITS FALSE NEIGHBOUR: 'it returns false'. Refute it at one input. -/
def reopeningExactWrong : ChangeSpec := { name := "reopeningExact", fn := fun _ => fun
  | [d1, d2, d3, d4, d5, d6, d7, d8, d9, d10, d11] => { results := [.lit (.bool false)], args := [d1, d2, d3, d4, d5, d6, d7, d8, d9, d10, d11] }
  | _ => none }
def ReopeningExactWrongFalsely : Prop := reopeningExactRow.holds Tryz.pinned (OpenSpec.ofChange reopeningExactWrong)

/- THE SECOND FORM. 'bulk': how many values and letters a reading holds, each counted each time it is reached (what is shared counts as often as it is met; a slice's spare places count too). A statement '..UptoSaid' is the law's where the arguments, and the package variables that the reading takes, are together of bulk at most 1048576: NARROWER than '..Said'. Prove '..Said' where nothing that the law and all that it calls make is longer than what came in: it says more and counts as full. Else prove '..UptoSaid'. A law counts once. -/
mutual
def uptoBulk {H : Type} : DataW H → Nat
  | .lit (.string bytes) => bytes.length + 1
  | .lit _ => 1
  | .nil => 1
  | .ptr d => uptoBulk d + 1
  | .slice elems spare => uptoBulkAll elems + uptoBulkAll spare + 1
  | .agg parts => uptoBulkAll parts + 1
  | .iface _ d => uptoBulk d + 1
  | .map entries => uptoBulkEntries entries + 1
  | .held _ => 1
def uptoBulkAll {H : Type} : List (DataW H) → Nat
  | [] => 0
  | d :: r => uptoBulk d + uptoBulkAll r
def uptoBulkEntries {H : Type} : List (Lit × DataW H) → Nat
  | [] => 0
  | x :: r => uptoBulkEntry x + uptoBulkEntries r
def uptoBulkEntry {H : Type} : Lit × DataW H → Nat
  | (.string bytes, d) => bytes.length + uptoBulk d + 1
  | (_, d) => uptoBulk d + 1
 end
def uptoSmall : (H : Type) → List (DataW H) → Bool := fun _ ds => decide (uptoBulkAll ds ≤ 1048576)
def OpenSpec.upto (s : _root_.Go.ChangeSpec) : _root_.Go.OpenSpec := { _root_.Go.OpenSpec.ofChange s with cond := some uptoSmall }

/-- 'treasurylaw36.IndexExact', WHERE WHAT IT READS IS OF BULK AT MOST 1048576: true; the input reads as it did. -/
def indexExactUptoRow : OpenClaim := { program := "ythjaofgdickkaaagreat", sum := "a712b49277a48953ff80f00956d5361d14b422accd30bba415e7ae2443e59dfc", func := "treasury/treasurylaw36.IndexExact", spec := "indexExact", inPlace := ["slices.overlaps[treasury/api.Holding]"], unfollowed := true, recurses := true, plainKeys := false, apart := false, narrowed := true }
def IndexExactUptoSaid : Prop := indexExactUptoRow.holds Tryz.pinned (OpenSpec.upto indexExactSpec)

/-- 'treasurylaw37.StripRights', WHERE WHAT IT READS IS OF BULK AT MOST 1048576: true; the input reads as it did. -/
def stripRightsUptoRow : OpenClaim := { program := "ythjaofgdickkaaagreat", sum := "a712b49277a48953ff80f00956d5361d14b422accd30bba415e7ae2443e59dfc", func := "treasury/treasurylaw37.StripRights", spec := "stripRights", inPlace := ["slices.overlaps[treasury/api.Holding]", "slices.overlaps[treasury/api.Strip]"], unfollowed := true, recurses := true, plainKeys := false, apart := false, narrowed := true }
def StripRightsUptoSaid : Prop := stripRightsUptoRow.holds Tryz.pinned (OpenSpec.upto stripRightsSpec)

/-- 'treasurylaw37.StripBack', WHERE WHAT IT READS IS OF BULK AT MOST 1048576: true; the input reads as it did. -/
def stripBackUptoRow : OpenClaim := { program := "ythjaofgdickkaaagreat", sum := "a712b49277a48953ff80f00956d5361d14b422accd30bba415e7ae2443e59dfc", func := "treasury/treasurylaw37.StripBack", spec := "stripBack", inPlace := ["slices.overlaps[treasury/api.Holding]", "slices.overlaps[treasury/api.Strip]"], unfollowed := true, recurses := true, plainKeys := false, apart := false, narrowed := true }
def StripBackUptoSaid : Prop := stripBackUptoRow.holds Tryz.pinned (OpenSpec.upto stripBackSpec)

/-- 'treasurylaw37.StripExact', WHERE WHAT IT READS IS OF BULK AT MOST 1048576: true; the input reads as it did. -/
def stripExactUptoRow : OpenClaim := { program := "ythjaofgdickkaaagreat", sum := "a712b49277a48953ff80f00956d5361d14b422accd30bba415e7ae2443e59dfc", func := "treasury/treasurylaw37.StripExact", spec := "stripExact", inPlace := ["slices.overlaps[treasury/api.Holding]", "slices.overlaps[treasury/api.Strip]"], unfollowed := true, recurses := true, plainKeys := false, apart := false, narrowed := true }
def StripExactUptoSaid : Prop := stripExactUptoRow.holds Tryz.pinned (OpenSpec.upto stripExactSpec)

/-- 'treasurylaw34.CouponExact', WHERE WHAT IT READS IS OF BULK AT MOST 1048576: true; the input reads as it did. -/
def couponExactUptoRow : OpenClaim := { program := "ythjaofgdickkaaagreat", sum := "a712b49277a48953ff80f00956d5361d14b422accd30bba415e7ae2443e59dfc", func := "treasury/treasurylaw34.CouponExact", spec := "couponExact", inPlace := ["slices.overlaps[treasury/api.Holding]"], unfollowed := true, recurses := true, plainKeys := false, apart := false, narrowed := true }
def CouponExactUptoSaid : Prop := couponExactUptoRow.holds Tryz.pinned (OpenSpec.upto couponExactSpec)

/-- 'treasurylaw38.BuybackSaves', WHERE WHAT IT READS IS OF BULK AT MOST 1048576: true; the input reads as it did. -/
def buybackSavesUptoRow : OpenClaim := { program := "ythjaofgdickkaaagreat", sum := "a712b49277a48953ff80f00956d5361d14b422accd30bba415e7ae2443e59dfc", func := "treasury/treasurylaw38.BuybackSaves", spec := "buybackSaves", inPlace := ["slices.overlaps[treasury/api.Holding]"], unfollowed := true, recurses := true, plainKeys := false, apart := false, narrowed := true }
def BuybackSavesUptoSaid : Prop := buybackSavesUptoRow.holds Tryz.pinned (OpenSpec.upto buybackSavesSpec)

/-- 'treasurylaw38.BuybackRetires', WHERE WHAT IT READS IS OF BULK AT MOST 1048576: true; the input reads as it did. -/
def buybackRetiresUptoRow : OpenClaim := { program := "ythjaofgdickkaaagreat", sum := "a712b49277a48953ff80f00956d5361d14b422accd30bba415e7ae2443e59dfc", func := "treasury/treasurylaw38.BuybackRetires", spec := "buybackRetires", inPlace := ["slices.overlaps[treasury/api.Holding]"], unfollowed := true, recurses := true, plainKeys := false, apart := false, narrowed := true }
def BuybackRetiresUptoSaid : Prop := buybackRetiresUptoRow.holds Tryz.pinned (OpenSpec.upto buybackRetiresSpec)

/-- 'treasurylaw38.BuybackExact', WHERE WHAT IT READS IS OF BULK AT MOST 1048576: true; the input reads as it did. -/
def buybackExactUptoRow : OpenClaim := { program := "ythjaofgdickkaaagreat", sum := "a712b49277a48953ff80f00956d5361d14b422accd30bba415e7ae2443e59dfc", func := "treasury/treasurylaw38.BuybackExact", spec := "buybackExact", inPlace := ["slices.overlaps[treasury/api.Holding]"], unfollowed := true, recurses := true, plainKeys := false, apart := false, narrowed := true }
def BuybackExactUptoSaid : Prop := buybackExactUptoRow.holds Tryz.pinned (OpenSpec.upto buybackExactSpec)

/-- 'treasurylaw35.ReopeningIssues', WHERE WHAT IT READS IS OF BULK AT MOST 1048576: true; the input reads as it did. -/
def reopeningIssuesUptoRow : OpenClaim := { program := "ythjaofgdickkaaagreat", sum := "a712b49277a48953ff80f00956d5361d14b422accd30bba415e7ae2443e59dfc", func := "treasury/treasurylaw35.ReopeningIssues", spec := "reopeningIssues", inPlace := ["slices.overlaps[treasury/api.Holding]"], unfollowed := true, recurses := true, plainKeys := false, apart := false, narrowed := true }
def ReopeningIssuesUptoSaid : Prop := reopeningIssuesUptoRow.holds Tryz.pinned (OpenSpec.upto reopeningIssuesSpec)

/-- 'treasurylaw35.ReopeningAgain', WHERE WHAT IT READS IS OF BULK AT MOST 1048576: true; the input reads as it did. -/
def reopeningAgainUptoRow : OpenClaim := { program := "ythjaofgdickkaaagreat", sum := "a712b49277a48953ff80f00956d5361d14b422accd30bba415e7ae2443e59dfc", func := "treasury/treasurylaw35.ReopeningAgain", spec := "reopeningAgain", inPlace := ["slices.overlaps[treasury/api.Holding]"], unfollowed := true, recurses := true, plainKeys := false, apart := false, narrowed := true }
def ReopeningAgainUptoSaid : Prop := reopeningAgainUptoRow.holds Tryz.pinned (OpenSpec.upto reopeningAgainSpec)

/-- 'treasurylaw35.ReopeningExact', WHERE WHAT IT READS IS OF BULK AT MOST 1048576: true; the input reads as it did. -/
def reopeningExactUptoRow : OpenClaim := { program := "ythjaofgdickkaaagreat", sum := "a712b49277a48953ff80f00956d5361d14b422accd30bba415e7ae2443e59dfc", func := "treasury/treasurylaw35.ReopeningExact", spec := "reopeningExact", inPlace := ["slices.overlaps[treasury/api.Holding]"], unfollowed := true, recurses := true, plainKeys := false, apart := false, narrowed := true }
def ReopeningExactUptoSaid : Prop := reopeningExactUptoRow.holds Tryz.pinned (OpenSpec.upto reopeningExactSpec)

end Rows
end Go.Proofs.YthjaofgdickkaaaGreat
