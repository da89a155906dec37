/-
  No cell of these rows narrows 'for every input' (looked for: loops, veiled, ifaces, maps, wideKeys, modest, calm, conditions, laid).
  DERIVED. THE GIVEN ROWS OF THIS SEAT. 6 by the template 'for every input the law returns true; each argument reads behind the call as it read before'; 0 by the template 'total and deterministic' (their statements: YtkkgipcidbgbhaaTotals.lean).
  GIVEN WITH THE SEED: the statements are not yours to turn. If you find one false, say at which input.
  Laid BY PROGRAM, IN A SANDBOX (cutbox-rows.mjs): the forced cells as the released guide's own fill.sh prints them over the translation e8ea365571ab6c5e… (all of the seat's roots in one cut). By AI agents, Wed Nov 11 2026. No macro, syntax, notation, axiom, sorry.
-/
import Derived.Test.YtkkgipcidbgbhaaChecked
import GoSem.Claim
import GoSem.ClaimJoined
import GoSem.ClaimMapViews
import Derived.JoinedTies
import Derived.KernelRfl
namespace Go.Proofs.Ytkkgipcidbgbhaa
/- THE CELL 'sum', in the pinned program and in every row, IS THE sha256 OF THE DUMP (.gsa) THAT YtkkgipcidbgbhaaProg.lean LOADS. Nothing in Lean hashes anything: it is a label: what it is worth is what the hold of that sum in a sandbox is worth. -/
noncomputable def Try.pinned : Pinned := { name := "ytkkgipcidbgbhaa", sum := "e8ea365571ab6c5ec91a2477b42a032850ff6128a7e62686fe9f6385e2c013a4", checked := Try.checked }
namespace Rows
def none {H : Type} : Left H := { results := [], args := [] }

/-- 'treasurylaw30.LiquidityMeets': WHATEVER THE INPUT: true; the input reads as it did. -/
def liquidityMeetsSpec : ChangeSpec := { name := "liquidityMeets", fn := fun _ => fun
  | [d] => { results := [.lit (.bool true)], args := [d] }
  | _ => none }
def liquidityMeetsRow : OpenClaim := { program := "ytkkgipcidbgbhaa", sum := "e8ea365571ab6c5ec91a2477b42a032850ff6128a7e62686fe9f6385e2c013a4", func := "treasury/treasurylaw30.LiquidityMeets", spec := "liquidityMeets", unfollowed := true, recurses := true, apart := false }
def LiquidityMeetsSaid : Prop := liquidityMeetsRow.holds Try.pinned (OpenSpec.ofChange liquidityMeetsSpec)

/-- ITS FALSE NEIGHBOUR: 'it returns false'. Refute it at one input. -/
def liquidityMeetsWrong : ChangeSpec := { name := "liquidityMeets", fn := fun _ => fun
  | [d] => { results := [.lit (.bool false)], args := [d] }
  | _ => none }
def LiquidityMeetsWrongFalsely : Prop := liquidityMeetsRow.holds Try.pinned (OpenSpec.ofChange liquidityMeetsWrong)

/-- 'treasurylaw30.LiquidityExact': WHATEVER THE INPUT: true; the input reads as it did. -/
def liquidityExactSpec : ChangeSpec := { name := "liquidityExact", fn := fun _ => fun
  | [d1, d2, d3, d4, d5, d6] => { results := [.lit (.bool true)], args := [d1, d2, d3, d4, d5, d6] }
  | _ => none }
def liquidityExactRow : OpenClaim := { program := "ytkkgipcidbgbhaa", sum := "e8ea365571ab6c5ec91a2477b42a032850ff6128a7e62686fe9f6385e2c013a4", func := "treasury/treasurylaw30.LiquidityExact", spec := "liquidityExact", unfollowed := true, recurses := true, apart := false }
def LiquidityExactSaid : Prop := liquidityExactRow.holds Try.pinned (OpenSpec.ofChange liquidityExactSpec)

/-- ITS FALSE NEIGHBOUR: 'it returns false'. Refute it at one input. -/
def liquidityExactWrong : ChangeSpec := { name := "liquidityExact", fn := fun _ => fun
  | [d1, d2, d3, d4, d5, d6] => { results := [.lit (.bool false)], args := [d1, d2, d3, d4, d5, d6] }
  | _ => none }
def LiquidityExactWrongFalsely : Prop := liquidityExactRow.holds Try.pinned (OpenSpec.ofChange liquidityExactWrong)

/-- 'treasurylaw01.MoneyParts': WHATEVER THE INPUT: true; the input reads as it did. -/
def moneyPartsSpec : ChangeSpec := { name := "moneyParts", fn := fun _ => fun
  | [d] => { results := [.lit (.bool true)], args := [d] }
  | _ => none }
def moneyPartsRow : OpenClaim := { program := "ytkkgipcidbgbhaa", sum := "e8ea365571ab6c5ec91a2477b42a032850ff6128a7e62686fe9f6385e2c013a4", func := "treasury/treasurylaw01.MoneyParts", spec := "moneyParts", unfollowed := true, recurses := true, apart := false }
def MoneyPartsSaid : Prop := moneyPartsRow.holds Try.pinned (OpenSpec.ofChange moneyPartsSpec)

/-- ITS FALSE NEIGHBOUR: 'it returns false'. Refute it at one input. -/
def moneyPartsWrong : ChangeSpec := { name := "moneyParts", fn := fun _ => fun
  | [d] => { results := [.lit (.bool false)], args := [d] }
  | _ => none }
def MoneyPartsWrongFalsely : Prop := moneyPartsRow.holds Try.pinned (OpenSpec.ofChange moneyPartsWrong)

/-- 'treasurylaw01.MoneyShares': WHATEVER THE INPUT: true; the input reads as it did. -/
def moneySharesSpec : ChangeSpec := { name := "moneyShares", fn := fun _ => fun
  | [d1, d2, d3, d4, d5] => { results := [.lit (.bool true)], args := [d1, d2, d3, d4, d5] }
  | _ => none }
def moneySharesRow : OpenClaim := { program := "ytkkgipcidbgbhaa", sum := "e8ea365571ab6c5ec91a2477b42a032850ff6128a7e62686fe9f6385e2c013a4", func := "treasury/treasurylaw01.MoneyShares", spec := "moneyShares", unfollowed := true, recurses := true, apart := false }
def MoneySharesSaid : Prop := moneySharesRow.holds Try.pinned (OpenSpec.ofChange moneySharesSpec)

/-- ITS FALSE NEIGHBOUR: 'it returns false'. Refute it at one input. -/
def moneySharesWrong : ChangeSpec := { name := "moneyShares", fn := fun _ => fun
  | [d1, d2, d3, d4, d5] => { results := [.lit (.bool false)], args := [d1, d2, d3, d4, d5] }
  | _ => none }
def MoneySharesWrongFalsely : Prop := moneySharesRow.holds Try.pinned (OpenSpec.ofChange moneySharesWrong)

/-- 'treasurylaw01.MoneySums': WHATEVER THE INPUT: true; the input reads as it did. -/
def moneySumsSpec : ChangeSpec := { name := "moneySums", fn := fun _ => fun
  | [d] => { results := [.lit (.bool true)], args := [d] }
  | _ => none }
def moneySumsRow : OpenClaim := { program := "ytkkgipcidbgbhaa", sum := "e8ea365571ab6c5ec91a2477b42a032850ff6128a7e62686fe9f6385e2c013a4", func := "treasury/treasurylaw01.MoneySums", spec := "moneySums", unfollowed := true, recurses := true, apart := false }
def MoneySumsSaid : Prop := moneySumsRow.holds Try.pinned (OpenSpec.ofChange moneySumsSpec)

/-- ITS FALSE NEIGHBOUR: 'it returns false'. Refute it at one input. -/
def moneySumsWrong : ChangeSpec := { name := "moneySums", fn := fun _ => fun
  | [d] => { results := [.lit (.bool false)], args := [d] }
  | _ => none }
def MoneySumsWrongFalsely : Prop := moneySumsRow.holds Try.pinned (OpenSpec.ofChange moneySumsWrong)

/-- 'treasurylaw01.MoneyAnswers': WHATEVER THE INPUT: true; the input reads as it did. -/
def moneyAnswersSpec : ChangeSpec := { name := "moneyAnswers", fn := fun _ => fun
  | [d1, d2, d3, d4, d5] => { results := [.lit (.bool true)], args := [d1, d2, d3, d4, d5] }
  | _ => none }
def moneyAnswersRow : OpenClaim := { program := "ytkkgipcidbgbhaa", sum := "e8ea365571ab6c5ec91a2477b42a032850ff6128a7e62686fe9f6385e2c013a4", func := "treasury/treasurylaw01.MoneyAnswers", spec := "moneyAnswers", unfollowed := true, recurses := true, apart := false }
def MoneyAnswersSaid : Prop := moneyAnswersRow.holds Try.pinned (OpenSpec.ofChange moneyAnswersSpec)

/-- ITS FALSE NEIGHBOUR: 'it returns false'. Refute it at one input. -/
def moneyAnswersWrong : ChangeSpec := { name := "moneyAnswers", fn := fun _ => fun
  | [d1, d2, d3, d4, d5] => { results := [.lit (.bool false)], args := [d1, d2, d3, d4, d5] }
  | _ => none }
def MoneyAnswersWrongFalsely : Prop := moneyAnswersRow.holds Try.pinned (OpenSpec.ofChange moneyAnswersWrong)

/- THE SECOND FORM. 'bulk': how many values and letters a reading holds, each counted each time it is reached (what is shared counts as often as it is met; a slice's spare places count too). A statement '..UptoSaid' is the law's where the arguments, and the package variables that the reading takes, are together of bulk at most 1048576: NARROWER than '..Said'. Prove '..Said' where nothing that the law and all that it calls make is longer than what came in: it says more and counts as full. Else prove '..UptoSaid'. A law counts once. -/
mutual
def uptoBulk {H : Type} : DataW H → Nat
  | .lit (.string bytes) => bytes.length + 1
  | .lit _ => 1
  | .nil => 1
  | .ptr d => uptoBulk d + 1
  | .slice elems spare => uptoBulkAll elems + uptoBulkAll spare + 1
  | .agg parts => uptoBulkAll parts + 1
  | .iface _ d => uptoBulk d + 1
  | .map entries => uptoBulkEntries entries + 1
  | .held _ => 1
def uptoBulkAll {H : Type} : List (DataW H) → Nat
  | [] => 0
  | d :: r => uptoBulk d + uptoBulkAll r
def uptoBulkEntries {H : Type} : List (Lit × DataW H) → Nat
  | [] => 0
  | x :: r => uptoBulkEntry x + uptoBulkEntries r
def uptoBulkEntry {H : Type} : Lit × DataW H → Nat
  | (.string bytes, d) => bytes.length + uptoBulk d + 1
  | (_, d) => uptoBulk d + 1
 end
def uptoSmall : (H : Type) → List (DataW H) → Bool := fun _ ds => decide (uptoBulkAll ds ≤ 1048576)
def OpenSpec.upto (s : _root_.Go.ChangeSpec) : _root_.Go.OpenSpec := { _root_.Go.OpenSpec.ofChange s with cond := some uptoSmall }

/-- 'treasurylaw30.LiquidityMeets', WHERE WHAT IT READS IS OF BULK AT MOST 1048576: true; the input reads as it did. -/
def liquidityMeetsUptoRow : OpenClaim := { program := "ytkkgipcidbgbhaa", sum := "e8ea365571ab6c5ec91a2477b42a032850ff6128a7e62686fe9f6385e2c013a4", func := "treasury/treasurylaw30.LiquidityMeets", spec := "liquidityMeets", unfollowed := true, recurses := true, apart := false, narrowed := true }
def LiquidityMeetsUptoSaid : Prop := liquidityMeetsUptoRow.holds Try.pinned (OpenSpec.upto liquidityMeetsSpec)

/-- 'treasurylaw30.LiquidityExact', WHERE WHAT IT READS IS OF BULK AT MOST 1048576: true; the input reads as it did. -/
def liquidityExactUptoRow : OpenClaim := { program := "ytkkgipcidbgbhaa", sum := "e8ea365571ab6c5ec91a2477b42a032850ff6128a7e62686fe9f6385e2c013a4", func := "treasury/treasurylaw30.LiquidityExact", spec := "liquidityExact", unfollowed := true, recurses := true, apart := false, narrowed := true }
def LiquidityExactUptoSaid : Prop := liquidityExactUptoRow.holds Try.pinned (OpenSpec.upto liquidityExactSpec)

/-- 'treasurylaw01.MoneyParts', WHERE WHAT IT READS IS OF BULK AT MOST 1048576: true; the input reads as it did. -/
def moneyPartsUptoRow : OpenClaim := { program := "ytkkgipcidbgbhaa", sum := "e8ea365571ab6c5ec91a2477b42a032850ff6128a7e62686fe9f6385e2c013a4", func := "treasury/treasurylaw01.MoneyParts", spec := "moneyParts", unfollowed := true, recurses := true, apart := false, narrowed := true }
def MoneyPartsUptoSaid : Prop := moneyPartsUptoRow.holds Try.pinned (OpenSpec.upto moneyPartsSpec)

/-- 'treasurylaw01.MoneyShares', WHERE WHAT IT READS IS OF BULK AT MOST 1048576: true; the input reads as it did. -/
def moneySharesUptoRow : OpenClaim := { program := "ytkkgipcidbgbhaa", sum := "e8ea365571ab6c5ec91a2477b42a032850ff6128a7e62686fe9f6385e2c013a4", func := "treasury/treasurylaw01.MoneyShares", spec := "moneyShares", unfollowed := true, recurses := true, apart := false, narrowed := true }
def MoneySharesUptoSaid : Prop := moneySharesUptoRow.holds Try.pinned (OpenSpec.upto moneySharesSpec)

/-- 'treasurylaw01.MoneySums', WHERE WHAT IT READS IS OF BULK AT MOST 1048576: true; the input reads as it did. -/
def moneySumsUptoRow : OpenClaim := { program := "ytkkgipcidbgbhaa", sum := "e8ea365571ab6c5ec91a2477b42a032850ff6128a7e62686fe9f6385e2c013a4", func := "treasury/treasurylaw01.MoneySums", spec := "moneySums", unfollowed := true, recurses := true, apart := false, narrowed := true }
def MoneySumsUptoSaid : Prop := moneySumsUptoRow.holds Try.pinned (OpenSpec.upto moneySumsSpec)

/-- 'treasurylaw01.MoneyAnswers', WHERE WHAT IT READS IS OF BULK AT MOST 1048576: true; the input reads as it did. -/
def moneyAnswersUptoRow : OpenClaim := { program := "ytkkgipcidbgbhaa", sum := "e8ea365571ab6c5ec91a2477b42a032850ff6128a7e62686fe9f6385e2c013a4", func := "treasury/treasurylaw01.MoneyAnswers", spec := "moneyAnswers", unfollowed := true, recurses := true, apart := false, narrowed := true }
def MoneyAnswersUptoSaid : Prop := moneyAnswersUptoRow.holds Try.pinned (OpenSpec.upto moneyAnswersSpec)

end Rows
end Go.Proofs.Ytkkgipcidbgbhaa
