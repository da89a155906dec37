/-
  No cell of these rows narrows 'for every input' (looked for: loops, veiled, ifaces, maps, wideKeys, modest, calm, conditions, laid).
  DERIVED. THE GIVEN ROWS OF THIS SEAT. 7 by the template 'for every input the law returns true; each argument reads behind the call as it read before'; 0 by the template 'total and deterministic' (their statements: YtenbbmmbpjjjpaaTotals.lean).
  GIVEN WITH THE SEED: the statements are not yours to turn. If you find one false, say at which input.
  Laid BY PROGRAM, IN A SANDBOX (cutbox-rows.mjs): the forced cells as the released guide's own fill.sh prints them over the translation 2f9b0f278ea450f9… (all of the seat's roots in one cut). By AI agents, Wed Nov 11 2026. No macro, syntax, notation, axiom, sorry.
-/
import Derived.Test.YtenbbmmbpjjjpaaChecked
import GoSem.Claim
import GoSem.ClaimJoined
import GoSem.ClaimMapViews
import Derived.JoinedTies
import Derived.KernelRfl
namespace Go.Proofs.Ytenbbmmbpjjjpaa
/- THE CELL 'sum', in the pinned program and in every row, IS THE sha256 OF THE DUMP (.gsa) THAT YtenbbmmbpjjjpaaProg.lean LOADS. Nothing in Lean hashes anything: it is a label: what it is worth is what the hold of that sum in a sandbox is worth. -/
noncomputable def Try.pinned : Pinned := { name := "ytenbbmmbpjjjpaa", sum := "2f9b0f278ea450f912d29d4f5141548671a987c76bf48682cd4b31f7d95dd9dc", checked := Try.checked }
namespace Rows
def none {H : Type} : Left H := { results := [], args := [] }

/-- 'treasurylaw32.AuctionFair': WHATEVER THE INPUT: true; the input reads as it did. -/
def auctionFairSpec : ChangeSpec := { name := "auctionFair", fn := fun _ => fun
  | [d] => { results := [.lit (.bool true)], args := [d] }
  | _ => none }
def auctionFairRow : OpenClaim := { program := "ytenbbmmbpjjjpaa", sum := "2f9b0f278ea450f912d29d4f5141548671a987c76bf48682cd4b31f7d95dd9dc", func := "treasury/treasurylaw32.AuctionFair", spec := "auctionFair", unfollowed := true, recurses := true, plainKeys := false, apart := false }
def AuctionFairSaid : Prop := auctionFairRow.holds Try.pinned (OpenSpec.ofChange auctionFairSpec)

/-- ITS FALSE NEIGHBOUR: 'it returns false'. Refute it at one input. -/
def auctionFairWrong : ChangeSpec := { name := "auctionFair", fn := fun _ => fun
  | [d] => { results := [.lit (.bool false)], args := [d] }
  | _ => none }
def AuctionFairWrongFalsely : Prop := auctionFairRow.holds Try.pinned (OpenSpec.ofChange auctionFairWrong)

/-- 'treasurylaw32.AuctionPrices': WHATEVER THE INPUT: true; the input reads as it did. -/
def auctionPricesSpec : ChangeSpec := { name := "auctionPrices", fn := fun _ => fun
  | [d] => { results := [.lit (.bool true)], args := [d] }
  | _ => none }
def auctionPricesRow : OpenClaim := { program := "ytenbbmmbpjjjpaa", sum := "2f9b0f278ea450f912d29d4f5141548671a987c76bf48682cd4b31f7d95dd9dc", func := "treasury/treasurylaw32.AuctionPrices", spec := "auctionPrices", unfollowed := true, recurses := true, plainKeys := false, apart := false }
def AuctionPricesSaid : Prop := auctionPricesRow.holds Try.pinned (OpenSpec.ofChange auctionPricesSpec)

/-- ITS FALSE NEIGHBOUR: 'it returns false'. Refute it at one input. -/
def auctionPricesWrong : ChangeSpec := { name := "auctionPrices", fn := fun _ => fun
  | [d] => { results := [.lit (.bool false)], args := [d] }
  | _ => none }
def AuctionPricesWrongFalsely : Prop := auctionPricesRow.holds Try.pinned (OpenSpec.ofChange auctionPricesWrong)

/-- 'treasurylaw32.AuctionShares': WHATEVER THE INPUT: true; the input reads as it did. -/
def auctionSharesSpec : ChangeSpec := { name := "auctionShares", fn := fun _ => fun
  | [d] => { results := [.lit (.bool true)], args := [d] }
  | _ => none }
def auctionSharesRow : OpenClaim := { program := "ytenbbmmbpjjjpaa", sum := "2f9b0f278ea450f912d29d4f5141548671a987c76bf48682cd4b31f7d95dd9dc", func := "treasury/treasurylaw32.AuctionShares", spec := "auctionShares", unfollowed := true, recurses := true, plainKeys := false, apart := false }
def AuctionSharesSaid : Prop := auctionSharesRow.holds Try.pinned (OpenSpec.ofChange auctionSharesSpec)

/-- ITS FALSE NEIGHBOUR: 'it returns false'. Refute it at one input. -/
def auctionSharesWrong : ChangeSpec := { name := "auctionShares", fn := fun _ => fun
  | [d] => { results := [.lit (.bool false)], args := [d] }
  | _ => none }
def AuctionSharesWrongFalsely : Prop := auctionSharesRow.holds Try.pinned (OpenSpec.ofChange auctionSharesWrong)

/-- 'treasurylaw32.AuctionMore': WHATEVER THE INPUT: true; the input reads as it did. -/
def auctionMoreSpec : ChangeSpec := { name := "auctionMore", fn := fun _ => fun
  | [d1, d2] => { results := [.lit (.bool true)], args := [d1, d2] }
  | _ => none }
def auctionMoreRow : OpenClaim := { program := "ytenbbmmbpjjjpaa", sum := "2f9b0f278ea450f912d29d4f5141548671a987c76bf48682cd4b31f7d95dd9dc", func := "treasury/treasurylaw32.AuctionMore", spec := "auctionMore", unfollowed := true, recurses := true, plainKeys := false, apart := false }
def AuctionMoreSaid : Prop := auctionMoreRow.holds Try.pinned (OpenSpec.ofChange auctionMoreSpec)

/-- ITS FALSE NEIGHBOUR: 'it returns false'. Refute it at one input. -/
def auctionMoreWrong : ChangeSpec := { name := "auctionMore", fn := fun _ => fun
  | [d1, d2] => { results := [.lit (.bool false)], args := [d1, d2] }
  | _ => none }
def AuctionMoreWrongFalsely : Prop := auctionMoreRow.holds Try.pinned (OpenSpec.ofChange auctionMoreWrong)

/-- 'treasurylaw32.AuctionOrder': WHATEVER THE INPUT: true; the input reads as it did. -/
def auctionOrderSpec : ChangeSpec := { name := "auctionOrder", fn := fun _ => fun
  | [d1, d2] => { results := [.lit (.bool true)], args := [d1, d2] }
  | _ => none }
def auctionOrderRow : OpenClaim := { program := "ytenbbmmbpjjjpaa", sum := "2f9b0f278ea450f912d29d4f5141548671a987c76bf48682cd4b31f7d95dd9dc", func := "treasury/treasurylaw32.AuctionOrder", spec := "auctionOrder", unfollowed := true, recurses := true, plainKeys := false, apart := false }
def AuctionOrderSaid : Prop := auctionOrderRow.holds Try.pinned (OpenSpec.ofChange auctionOrderSpec)

/-- ITS FALSE NEIGHBOUR: 'it returns false'. Refute it at one input. -/
def auctionOrderWrong : ChangeSpec := { name := "auctionOrder", fn := fun _ => fun
  | [d1, d2] => { results := [.lit (.bool false)], args := [d1, d2] }
  | _ => none }
def AuctionOrderWrongFalsely : Prop := auctionOrderRow.holds Try.pinned (OpenSpec.ofChange auctionOrderWrong)

/-- 'treasurylaw32.AuctionYields': WHATEVER THE INPUT: true; the input reads as it did. -/
def auctionYieldsSpec : ChangeSpec := { name := "auctionYields", fn := fun _ => fun
  | [d] => { results := [.lit (.bool true)], args := [d] }
  | _ => none }
def auctionYieldsRow : OpenClaim := { program := "ytenbbmmbpjjjpaa", sum := "2f9b0f278ea450f912d29d4f5141548671a987c76bf48682cd4b31f7d95dd9dc", func := "treasury/treasurylaw32.AuctionYields", spec := "auctionYields", unfollowed := true, recurses := true, plainKeys := false, apart := false }
def AuctionYieldsSaid : Prop := auctionYieldsRow.holds Try.pinned (OpenSpec.ofChange auctionYieldsSpec)

/-- ITS FALSE NEIGHBOUR: 'it returns false'. Refute it at one input. -/
def auctionYieldsWrong : ChangeSpec := { name := "auctionYields", fn := fun _ => fun
  | [d] => { results := [.lit (.bool false)], args := [d] }
  | _ => none }
def AuctionYieldsWrongFalsely : Prop := auctionYieldsRow.holds Try.pinned (OpenSpec.ofChange auctionYieldsWrong)

/-- 'treasurylaw32.AuctionExact': WHATEVER THE INPUT: true; the input reads as it did. -/
def auctionExactSpec : ChangeSpec := { name := "auctionExact", fn := fun _ => fun
  | [d1, d2, d3, d4, d5, d6] => { results := [.lit (.bool true)], args := [d1, d2, d3, d4, d5, d6] }
  | _ => none }
def auctionExactRow : OpenClaim := { program := "ytenbbmmbpjjjpaa", sum := "2f9b0f278ea450f912d29d4f5141548671a987c76bf48682cd4b31f7d95dd9dc", func := "treasury/treasurylaw32.AuctionExact", spec := "auctionExact", unfollowed := true, recurses := true, plainKeys := false, apart := false }
def AuctionExactSaid : Prop := auctionExactRow.holds Try.pinned (OpenSpec.ofChange auctionExactSpec)

/-- ITS FALSE NEIGHBOUR: 'it returns false'. Refute it at one input. -/
def auctionExactWrong : ChangeSpec := { name := "auctionExact", fn := fun _ => fun
  | [d1, d2, d3, d4, d5, d6] => { results := [.lit (.bool false)], args := [d1, d2, d3, d4, d5, d6] }
  | _ => none }
def AuctionExactWrongFalsely : Prop := auctionExactRow.holds Try.pinned (OpenSpec.ofChange auctionExactWrong)

/- THE SECOND FORM. 'bulk': how many values and letters a reading holds, each counted each time it is reached (what is shared counts as often as it is met; a slice's spare places count too). A statement '..UptoSaid' is the law's where the arguments, and the package variables that the reading takes, are together of bulk at most 1048576: NARROWER than '..Said'. Prove '..Said' where nothing that the law and all that it calls make is longer than what came in: it says more and counts as full. Else prove '..UptoSaid'. A law counts once. -/
mutual
def uptoBulk {H : Type} : DataW H → Nat
  | .lit (.string bytes) => bytes.length + 1
  | .lit _ => 1
  | .nil => 1
  | .ptr d => uptoBulk d + 1
  | .slice elems spare => uptoBulkAll elems + uptoBulkAll spare + 1
  | .agg parts => uptoBulkAll parts + 1
  | .iface _ d => uptoBulk d + 1
  | .map entries => uptoBulkEntries entries + 1
  | .held _ => 1
def uptoBulkAll {H : Type} : List (DataW H) → Nat
  | [] => 0
  | d :: r => uptoBulk d + uptoBulkAll r
def uptoBulkEntries {H : Type} : List (Lit × DataW H) → Nat
  | [] => 0
  | x :: r => uptoBulkEntry x + uptoBulkEntries r
def uptoBulkEntry {H : Type} : Lit × DataW H → Nat
  | (.string bytes, d) => bytes.length + uptoBulk d + 1
  | (_, d) => uptoBulk d + 1
 end
def uptoSmall : (H : Type) → List (DataW H) → Bool := fun _ ds => decide (uptoBulkAll ds ≤ 1048576)
def OpenSpec.upto (s : _root_.Go.ChangeSpec) : _root_.Go.OpenSpec := { _root_.Go.OpenSpec.ofChange s with cond := some uptoSmall }

/-- 'treasurylaw32.AuctionFair', WHERE WHAT IT READS IS OF BULK AT MOST 1048576: true; the input reads as it did. -/
def auctionFairUptoRow : OpenClaim := { program := "ytenbbmmbpjjjpaa", sum := "2f9b0f278ea450f912d29d4f5141548671a987c76bf48682cd4b31f7d95dd9dc", func := "treasury/treasurylaw32.AuctionFair", spec := "auctionFair", unfollowed := true, recurses := true, plainKeys := false, apart := false, narrowed := true }
def AuctionFairUptoSaid : Prop := auctionFairUptoRow.holds Try.pinned (OpenSpec.upto auctionFairSpec)

/-- 'treasurylaw32.AuctionPrices', WHERE WHAT IT READS IS OF BULK AT MOST 1048576: true; the input reads as it did. -/
def auctionPricesUptoRow : OpenClaim := { program := "ytenbbmmbpjjjpaa", sum := "2f9b0f278ea450f912d29d4f5141548671a987c76bf48682cd4b31f7d95dd9dc", func := "treasury/treasurylaw32.AuctionPrices", spec := "auctionPrices", unfollowed := true, recurses := true, plainKeys := false, apart := false, narrowed := true }
def AuctionPricesUptoSaid : Prop := auctionPricesUptoRow.holds Try.pinned (OpenSpec.upto auctionPricesSpec)

/-- 'treasurylaw32.AuctionShares', WHERE WHAT IT READS IS OF BULK AT MOST 1048576: true; the input reads as it did. -/
def auctionSharesUptoRow : OpenClaim := { program := "ytenbbmmbpjjjpaa", sum := "2f9b0f278ea450f912d29d4f5141548671a987c76bf48682cd4b31f7d95dd9dc", func := "treasury/treasurylaw32.AuctionShares", spec := "auctionShares", unfollowed := true, recurses := true, plainKeys := false, apart := false, narrowed := true }
def AuctionSharesUptoSaid : Prop := auctionSharesUptoRow.holds Try.pinned (OpenSpec.upto auctionSharesSpec)

/-- 'treasurylaw32.AuctionMore', WHERE WHAT IT READS IS OF BULK AT MOST 1048576: true; the input reads as it did. -/
def auctionMoreUptoRow : OpenClaim := { program := "ytenbbmmbpjjjpaa", sum := "2f9b0f278ea450f912d29d4f5141548671a987c76bf48682cd4b31f7d95dd9dc", func := "treasury/treasurylaw32.AuctionMore", spec := "auctionMore", unfollowed := true, recurses := true, plainKeys := false, apart := false, narrowed := true }
def AuctionMoreUptoSaid : Prop := auctionMoreUptoRow.holds Try.pinned (OpenSpec.upto auctionMoreSpec)

/-- 'treasurylaw32.AuctionOrder', WHERE WHAT IT READS IS OF BULK AT MOST 1048576: true; the input reads as it did. -/
def auctionOrderUptoRow : OpenClaim := { program := "ytenbbmmbpjjjpaa", sum := "2f9b0f278ea450f912d29d4f5141548671a987c76bf48682cd4b31f7d95dd9dc", func := "treasury/treasurylaw32.AuctionOrder", spec := "auctionOrder", unfollowed := true, recurses := true, plainKeys := false, apart := false, narrowed := true }
def AuctionOrderUptoSaid : Prop := auctionOrderUptoRow.holds Try.pinned (OpenSpec.upto auctionOrderSpec)

/-- 'treasurylaw32.AuctionYields', WHERE WHAT IT READS IS OF BULK AT MOST 1048576: true; the input reads as it did. -/
def auctionYieldsUptoRow : OpenClaim := { program := "ytenbbmmbpjjjpaa", sum := "2f9b0f278ea450f912d29d4f5141548671a987c76bf48682cd4b31f7d95dd9dc", func := "treasury/treasurylaw32.AuctionYields", spec := "auctionYields", unfollowed := true, recurses := true, plainKeys := false, apart := false, narrowed := true }
def AuctionYieldsUptoSaid : Prop := auctionYieldsUptoRow.holds Try.pinned (OpenSpec.upto auctionYieldsSpec)

/-- 'treasurylaw32.AuctionExact', WHERE WHAT IT READS IS OF BULK AT MOST 1048576: true; the input reads as it did. -/
def auctionExactUptoRow : OpenClaim := { program := "ytenbbmmbpjjjpaa", sum := "2f9b0f278ea450f912d29d4f5141548671a987c76bf48682cd4b31f7d95dd9dc", func := "treasury/treasurylaw32.AuctionExact", spec := "auctionExact", unfollowed := true, recurses := true, plainKeys := false, apart := false, narrowed := true }
def AuctionExactUptoSaid : Prop := auctionExactUptoRow.holds Try.pinned (OpenSpec.upto auctionExactSpec)

end Rows
end Go.Proofs.Ytenbbmmbpjjjpaa
