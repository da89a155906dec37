/-
  No cell of these rows narrows 'for every input' (looked for: loops, veiled, ifaces, maps, wideKeys, modest, calm, conditions, laid).
  DERIVED. THE GIVEN ROWS OF THIS SEAT. 6 by the template 'for every input the law returns true; each argument reads behind the call as it read before'; 0 by the template 'total and deterministic' (their statements: YtmobjmgiilbbdaaTotals.lean).
  GIVEN WITH THE SEED: the statements are not yours to turn. If you find one false, say at which input.
  Laid BY PROGRAM, IN A SANDBOX (cutbox-rows.mjs): the forced cells as the released guide's own fill.sh prints them over the translation 714f408b8acdde06… (all of the seat's roots in one cut). By AI agents, Wed Nov 11 2026. No macro, syntax, notation, axiom, sorry.
-/
import Derived.Test.YtmobjmgiilbbdaaChecked
import GoSem.Claim
import GoSem.ClaimJoined
import GoSem.ClaimMapViews
import Derived.JoinedTies
import Derived.KernelRfl
namespace Go.Proofs.Ytmobjmgiilbbdaa
/- THE CELL 'sum', in the pinned program and in every row, IS THE sha256 OF THE DUMP (.gsa) THAT YtmobjmgiilbbdaaProg.lean LOADS. Nothing in Lean hashes anything: it is a label: what it is worth is what the hold of that sum in a sandbox is worth. -/
noncomputable def Try.pinned : Pinned := { name := "ytmobjmgiilbbdaa", sum := "714f408b8acdde0653724b444c20b22295c01168e55b5d93fcf38dd2657eb9e9", checked := Try.checked }
namespace Rows
def none {H : Type} : Left H := { results := [], args := [] }

/-- 'treasurylaw30.LiquidityLeast': WHATEVER THE INPUT: true; the input reads as it did. -/
def liquidityLeastSpec : ChangeSpec := { name := "liquidityLeast", fn := fun _ => fun
  | [d] => { results := [.lit (.bool true)], args := [d] }
  | _ => none }
def liquidityLeastRow : OpenClaim := { program := "ytmobjmgiilbbdaa", sum := "714f408b8acdde0653724b444c20b22295c01168e55b5d93fcf38dd2657eb9e9", func := "treasury/treasurylaw30.LiquidityLeast", spec := "liquidityLeast", apart := false }
def LiquidityLeastSaid : Prop := liquidityLeastRow.holds Try.pinned (OpenSpec.ofChange liquidityLeastSpec)

/-- ITS FALSE NEIGHBOUR: 'it returns false'. Refute it at one input. -/
def liquidityLeastWrong : ChangeSpec := { name := "liquidityLeast", fn := fun _ => fun
  | [d] => { results := [.lit (.bool false)], args := [d] }
  | _ => none }
def LiquidityLeastWrongFalsely : Prop := liquidityLeastRow.holds Try.pinned (OpenSpec.ofChange liquidityLeastWrong)

/-- 'treasurylaw30.LiquidityWider': WHATEVER THE INPUT: true; the input reads as it did. -/
def liquidityWiderSpec : ChangeSpec := { name := "liquidityWider", fn := fun _ => fun
  | [d1, d2] => { results := [.lit (.bool true)], args := [d1, d2] }
  | _ => none }
def liquidityWiderRow : OpenClaim := { program := "ytmobjmgiilbbdaa", sum := "714f408b8acdde0653724b444c20b22295c01168e55b5d93fcf38dd2657eb9e9", func := "treasury/treasurylaw30.LiquidityWider", spec := "liquidityWider", apart := false }
def LiquidityWiderSaid : Prop := liquidityWiderRow.holds Try.pinned (OpenSpec.ofChange liquidityWiderSpec)

/-- ITS FALSE NEIGHBOUR: 'it returns false'. Refute it at one input. -/
def liquidityWiderWrong : ChangeSpec := { name := "liquidityWider", fn := fun _ => fun
  | [d1, d2] => { results := [.lit (.bool false)], args := [d1, d2] }
  | _ => none }
def LiquidityWiderWrongFalsely : Prop := liquidityWiderRow.holds Try.pinned (OpenSpec.ofChange liquidityWiderWrong)

/-- 'treasurylaw30.LiquidityShifts': WHATEVER THE INPUT: true; the input reads as it did. -/
def liquidityShiftsSpec : ChangeSpec := { name := "liquidityShifts", fn := fun _ => fun
  | [d1, d2] => { results := [.lit (.bool true)], args := [d1, d2] }
  | _ => none }
def liquidityShiftsRow : OpenClaim := { program := "ytmobjmgiilbbdaa", sum := "714f408b8acdde0653724b444c20b22295c01168e55b5d93fcf38dd2657eb9e9", func := "treasury/treasurylaw30.LiquidityShifts", spec := "liquidityShifts", unfollowed := true, recurses := true, apart := false }
def LiquidityShiftsSaid : Prop := liquidityShiftsRow.holds Try.pinned (OpenSpec.ofChange liquidityShiftsSpec)

/-- ITS FALSE NEIGHBOUR: 'it returns false'. Refute it at one input. -/
def liquidityShiftsWrong : ChangeSpec := { name := "liquidityShifts", fn := fun _ => fun
  | [d1, d2] => { results := [.lit (.bool false)], args := [d1, d2] }
  | _ => none }
def LiquidityShiftsWrongFalsely : Prop := liquidityShiftsRow.holds Try.pinned (OpenSpec.ofChange liquidityShiftsWrong)

/-- 'treasurylaw30.LiquidityCosts': WHATEVER THE INPUT: true; the input reads as it did. -/
def liquidityCostsSpec : ChangeSpec := { name := "liquidityCosts", fn := fun _ => fun
  | [d] => { results := [.lit (.bool true)], args := [d] }
  | _ => none }
def liquidityCostsRow : OpenClaim := { program := "ytmobjmgiilbbdaa", sum := "714f408b8acdde0653724b444c20b22295c01168e55b5d93fcf38dd2657eb9e9", func := "treasury/treasurylaw30.LiquidityCosts", spec := "liquidityCosts", unfollowed := true, recurses := true, apart := false }
def LiquidityCostsSaid : Prop := liquidityCostsRow.holds Try.pinned (OpenSpec.ofChange liquidityCostsSpec)

/-- ITS FALSE NEIGHBOUR: 'it returns false'. Refute it at one input. -/
def liquidityCostsWrong : ChangeSpec := { name := "liquidityCosts", fn := fun _ => fun
  | [d] => { results := [.lit (.bool false)], args := [d] }
  | _ => none }
def LiquidityCostsWrongFalsely : Prop := liquidityCostsRow.holds Try.pinned (OpenSpec.ofChange liquidityCostsWrong)

/-- 'treasurylaw30.LiquidityMeets': WHATEVER THE INPUT: true; the input reads as it did. -/
def liquidityMeetsSpec : ChangeSpec := { name := "liquidityMeets", fn := fun _ => fun
  | [d] => { results := [.lit (.bool true)], args := [d] }
  | _ => none }
def liquidityMeetsRow : OpenClaim := { program := "ytmobjmgiilbbdaa", sum := "714f408b8acdde0653724b444c20b22295c01168e55b5d93fcf38dd2657eb9e9", func := "treasury/treasurylaw30.LiquidityMeets", spec := "liquidityMeets", unfollowed := true, recurses := true, apart := false }
def LiquidityMeetsSaid : Prop := liquidityMeetsRow.holds Try.pinned (OpenSpec.ofChange liquidityMeetsSpec)

/-- ITS FALSE NEIGHBOUR: 'it returns false'. Refute it at one input. -/
def liquidityMeetsWrong : ChangeSpec := { name := "liquidityMeets", fn := fun _ => fun
  | [d] => { results := [.lit (.bool false)], args := [d] }
  | _ => none }
def LiquidityMeetsWrongFalsely : Prop := liquidityMeetsRow.holds Try.pinned (OpenSpec.ofChange liquidityMeetsWrong)

/-- 'treasurylaw30.LiquidityExact': WHATEVER THE INPUT: true; the input reads as it did. -/
def liquidityExactSpec : ChangeSpec := { name := "liquidityExact", fn := fun _ => fun
  | [d1, d2, d3, d4, d5, d6] => { results := [.lit (.bool true)], args := [d1, d2, d3, d4, d5, d6] }
  | _ => none }
def liquidityExactRow : OpenClaim := { program := "ytmobjmgiilbbdaa", sum := "714f408b8acdde0653724b444c20b22295c01168e55b5d93fcf38dd2657eb9e9", func := "treasury/treasurylaw30.LiquidityExact", spec := "liquidityExact", unfollowed := true, recurses := true, apart := false }
def LiquidityExactSaid : Prop := liquidityExactRow.holds Try.pinned (OpenSpec.ofChange liquidityExactSpec)

/-- ITS FALSE NEIGHBOUR: 'it returns false'. Refute it at one input. -/
def liquidityExactWrong : ChangeSpec := { name := "liquidityExact", fn := fun _ => fun
  | [d1, d2, d3, d4, d5, d6] => { results := [.lit (.bool false)], args := [d1, d2, d3, d4, d5, d6] }
  | _ => none }
def LiquidityExactWrongFalsely : Prop := liquidityExactRow.holds Try.pinned (OpenSpec.ofChange liquidityExactWrong)

/- THE SECOND FORM. 'bulk': how many values and letters a reading holds, each counted each time it is reached (what is shared counts as often as it is met; a slice's spare places count too). A statement '..UptoSaid' is the law's where the arguments, and the package variables that the reading takes, are together of bulk at most 1048576: NARROWER than '..Said'. Prove '..Said' where nothing that the law and all that it calls make is longer than what came in: it says more and counts as full. Else prove '..UptoSaid'. A law counts once. -/
mutual
def uptoBulk {H : Type} : DataW H → Nat
  | .lit (.string bytes) => bytes.length + 1
  | .lit _ => 1
  | .nil => 1
  | .ptr d => uptoBulk d + 1
  | .slice elems spare => uptoBulkAll elems + uptoBulkAll spare + 1
  | .agg parts => uptoBulkAll parts + 1
  | .iface _ d => uptoBulk d + 1
  | .map entries => uptoBulkEntries entries + 1
  | .held _ => 1
def uptoBulkAll {H : Type} : List (DataW H) → Nat
  | [] => 0
  | d :: r => uptoBulk d + uptoBulkAll r
def uptoBulkEntries {H : Type} : List (Lit × DataW H) → Nat
  | [] => 0
  | x :: r => uptoBulkEntry x + uptoBulkEntries r
def uptoBulkEntry {H : Type} : Lit × DataW H → Nat
  | (.string bytes, d) => bytes.length + uptoBulk d + 1
  | (_, d) => uptoBulk d + 1
 end
def uptoSmall : (H : Type) → List (DataW H) → Bool := fun _ ds => decide (uptoBulkAll ds ≤ 1048576)
def OpenSpec.upto (s : _root_.Go.ChangeSpec) : _root_.Go.OpenSpec := { _root_.Go.OpenSpec.ofChange s with cond := some uptoSmall }

/-- 'treasurylaw30.LiquidityLeast', WHERE WHAT IT READS IS OF BULK AT MOST 1048576: true; the input reads as it did. -/
def liquidityLeastUptoRow : OpenClaim := { program := "ytmobjmgiilbbdaa", sum := "714f408b8acdde0653724b444c20b22295c01168e55b5d93fcf38dd2657eb9e9", func := "treasury/treasurylaw30.LiquidityLeast", spec := "liquidityLeast", apart := false, narrowed := true }
def LiquidityLeastUptoSaid : Prop := liquidityLeastUptoRow.holds Try.pinned (OpenSpec.upto liquidityLeastSpec)

/-- 'treasurylaw30.LiquidityWider', WHERE WHAT IT READS IS OF BULK AT MOST 1048576: true; the input reads as it did. -/
def liquidityWiderUptoRow : OpenClaim := { program := "ytmobjmgiilbbdaa", sum := "714f408b8acdde0653724b444c20b22295c01168e55b5d93fcf38dd2657eb9e9", func := "treasury/treasurylaw30.LiquidityWider", spec := "liquidityWider", apart := false, narrowed := true }
def LiquidityWiderUptoSaid : Prop := liquidityWiderUptoRow.holds Try.pinned (OpenSpec.upto liquidityWiderSpec)

/-- 'treasurylaw30.LiquidityShifts', WHERE WHAT IT READS IS OF BULK AT MOST 1048576: true; the input reads as it did. -/
def liquidityShiftsUptoRow : OpenClaim := { program := "ytmobjmgiilbbdaa", sum := "714f408b8acdde0653724b444c20b22295c01168e55b5d93fcf38dd2657eb9e9", func := "treasury/treasurylaw30.LiquidityShifts", spec := "liquidityShifts", unfollowed := true, recurses := true, apart := false, narrowed := true }
def LiquidityShiftsUptoSaid : Prop := liquidityShiftsUptoRow.holds Try.pinned (OpenSpec.upto liquidityShiftsSpec)

/-- 'treasurylaw30.LiquidityCosts', WHERE WHAT IT READS IS OF BULK AT MOST 1048576: true; the input reads as it did. -/
def liquidityCostsUptoRow : OpenClaim := { program := "ytmobjmgiilbbdaa", sum := "714f408b8acdde0653724b444c20b22295c01168e55b5d93fcf38dd2657eb9e9", func := "treasury/treasurylaw30.LiquidityCosts", spec := "liquidityCosts", unfollowed := true, recurses := true, apart := false, narrowed := true }
def LiquidityCostsUptoSaid : Prop := liquidityCostsUptoRow.holds Try.pinned (OpenSpec.upto liquidityCostsSpec)

/-- 'treasurylaw30.LiquidityMeets', WHERE WHAT IT READS IS OF BULK AT MOST 1048576: true; the input reads as it did. -/
def liquidityMeetsUptoRow : OpenClaim := { program := "ytmobjmgiilbbdaa", sum := "714f408b8acdde0653724b444c20b22295c01168e55b5d93fcf38dd2657eb9e9", func := "treasury/treasurylaw30.LiquidityMeets", spec := "liquidityMeets", unfollowed := true, recurses := true, apart := false, narrowed := true }
def LiquidityMeetsUptoSaid : Prop := liquidityMeetsUptoRow.holds Try.pinned (OpenSpec.upto liquidityMeetsSpec)

/-- 'treasurylaw30.LiquidityExact', WHERE WHAT IT READS IS OF BULK AT MOST 1048576: true; the input reads as it did. -/
def liquidityExactUptoRow : OpenClaim := { program := "ytmobjmgiilbbdaa", sum := "714f408b8acdde0653724b444c20b22295c01168e55b5d93fcf38dd2657eb9e9", func := "treasury/treasurylaw30.LiquidityExact", spec := "liquidityExact", unfollowed := true, recurses := true, apart := false, narrowed := true }
def LiquidityExactUptoSaid : Prop := liquidityExactUptoRow.holds Try.pinned (OpenSpec.upto liquidityExactSpec)

end Rows
end Go.Proofs.Ytmobjmgiilbbdaa
