/-
  No cell of these rows narrows 'for every input' (looked for: loops, veiled, ifaces, maps, wideKeys, modest, calm, conditions, laid).
  DERIVED. THE GIVEN ROWS OF THIS SEAT. 11 by the template 'for every input the law returns true; each argument reads behind the call as it read before'; 0 by the template 'total and deterministic' (their statements: YtkbkohkhpmpddaaTotals.lean).
  GIVEN WITH THE SEED: the statements are not yours to turn. If you find one false, say at which input.
  Laid BY PROGRAM, IN A SANDBOX (cutbox-rows.mjs): the forced cells as the released guide's own fill.sh prints them over the translation 9fb6908aa6d034de… (all of the seat's roots in one cut). By AI agents, Wed Nov 11 2026. No macro, syntax, notation, axiom, sorry.
-/
import Derived.Test.YtkbkohkhpmpddaaChecked
import GoSem.Claim
import GoSem.ClaimJoined
import GoSem.ClaimMapViews
import Derived.JoinedTies
import Derived.KernelRfl
namespace Go.Proofs.Ytkbkohkhpmpddaa
/- THE CELL 'sum', in the pinned program and in every row, IS THE sha256 OF THE DUMP (.gsa) THAT YtkbkohkhpmpddaaProg.lean LOADS. Nothing in Lean hashes anything: it is a label: what it is worth is what the hold of that sum in a sandbox is worth. -/
noncomputable def Try.pinned : Pinned := { name := "ytkbkohkhpmpddaa", sum := "9fb6908aa6d034de3214c0d60f99c5721bca015f6f26b284aa4b4dd0f58c557f", checked := Try.checked }
namespace Rows
def none {H : Type} : Left H := { results := [], args := [] }

/-- 'treasurylaw34.CouponParts': WHATEVER THE INPUT: true; the input reads as it did. -/
def couponPartsSpec : ChangeSpec := { name := "couponParts", fn := fun _ => fun
  | [d1, d2, d3] => { results := [.lit (.bool true)], args := [d1, d2, d3] }
  | _ => none }
def couponPartsRow : OpenClaim := { program := "ytkbkohkhpmpddaa", sum := "9fb6908aa6d034de3214c0d60f99c5721bca015f6f26b284aa4b4dd0f58c557f", func := "treasury/treasurylaw34.CouponParts", spec := "couponParts", apart := false }
def CouponPartsSaid : Prop := couponPartsRow.holds Try.pinned (OpenSpec.ofChange couponPartsSpec)

/-- ITS FALSE NEIGHBOUR: 'it returns false'. Refute it at one input. -/
def couponPartsWrong : ChangeSpec := { name := "couponParts", fn := fun _ => fun
  | [d1, d2, d3] => { results := [.lit (.bool false)], args := [d1, d2, d3] }
  | _ => none }
def CouponPartsWrongFalsely : Prop := couponPartsRow.holds Try.pinned (OpenSpec.ofChange couponPartsWrong)

/-- 'treasurylaw34.CouponAccrues': WHATEVER THE INPUT: true; the input reads as it did. -/
def couponAccruesSpec : ChangeSpec := { name := "couponAccrues", fn := fun _ => fun
  | [d1, d2] => { results := [.lit (.bool true)], args := [d1, d2] }
  | _ => none }
def couponAccruesRow : OpenClaim := { program := "ytkbkohkhpmpddaa", sum := "9fb6908aa6d034de3214c0d60f99c5721bca015f6f26b284aa4b4dd0f58c557f", func := "treasury/treasurylaw34.CouponAccrues", spec := "couponAccrues", apart := false }
def CouponAccruesSaid : Prop := couponAccruesRow.holds Try.pinned (OpenSpec.ofChange couponAccruesSpec)

/-- ITS FALSE NEIGHBOUR: 'it returns false'. Refute it at one input. -/
def couponAccruesWrong : ChangeSpec := { name := "couponAccrues", fn := fun _ => fun
  | [d1, d2] => { results := [.lit (.bool false)], args := [d1, d2] }
  | _ => none }
def CouponAccruesWrongFalsely : Prop := couponAccruesRow.holds Try.pinned (OpenSpec.ofChange couponAccruesWrong)

/-- 'treasurylaw34.CouponDays': WHATEVER THE INPUT: true; the input reads as it did. -/
def couponDaysSpec : ChangeSpec := { name := "couponDays", fn := fun _ => fun
  | [d] => { results := [.lit (.bool true)], args := [d] }
  | _ => none }
def couponDaysRow : OpenClaim := { program := "ytkbkohkhpmpddaa", sum := "9fb6908aa6d034de3214c0d60f99c5721bca015f6f26b284aa4b4dd0f58c557f", func := "treasury/treasurylaw34.CouponDays", spec := "couponDays", apart := false }
def CouponDaysSaid : Prop := couponDaysRow.holds Try.pinned (OpenSpec.ofChange couponDaysSpec)

/-- ITS FALSE NEIGHBOUR: 'it returns false'. Refute it at one input. -/
def couponDaysWrong : ChangeSpec := { name := "couponDays", fn := fun _ => fun
  | [d] => { results := [.lit (.bool false)], args := [d] }
  | _ => none }
def CouponDaysWrongFalsely : Prop := couponDaysRow.holds Try.pinned (OpenSpec.ofChange couponDaysWrong)

/-- 'treasurylaw34.CouponLife': WHATEVER THE INPUT: true; the input reads as it did. -/
def couponLifeSpec : ChangeSpec := { name := "couponLife", fn := fun _ => fun
  | [d1, d2] => { results := [.lit (.bool true)], args := [d1, d2] }
  | _ => none }
def couponLifeRow : OpenClaim := { program := "ytkbkohkhpmpddaa", sum := "9fb6908aa6d034de3214c0d60f99c5721bca015f6f26b284aa4b4dd0f58c557f", func := "treasury/treasurylaw34.CouponLife", spec := "couponLife", apart := false }
def CouponLifeSaid : Prop := couponLifeRow.holds Try.pinned (OpenSpec.ofChange couponLifeSpec)

/-- ITS FALSE NEIGHBOUR: 'it returns false'. Refute it at one input. -/
def couponLifeWrong : ChangeSpec := { name := "couponLife", fn := fun _ => fun
  | [d1, d2] => { results := [.lit (.bool false)], args := [d1, d2] }
  | _ => none }
def CouponLifeWrongFalsely : Prop := couponLifeRow.holds Try.pinned (OpenSpec.ofChange couponLifeWrong)

/-- 'treasurylaw36.IndexGrows': WHATEVER THE INPUT: true; the input reads as it did. -/
def indexGrowsSpec : ChangeSpec := { name := "indexGrows", fn := fun _ => fun
  | [d1, d2, d3] => { results := [.lit (.bool true)], args := [d1, d2, d3] }
  | _ => none }
def indexGrowsRow : OpenClaim := { program := "ytkbkohkhpmpddaa", sum := "9fb6908aa6d034de3214c0d60f99c5721bca015f6f26b284aa4b4dd0f58c557f", func := "treasury/treasurylaw36.IndexGrows", spec := "indexGrows", unfollowed := true, recurses := true, apart := false }
def IndexGrowsSaid : Prop := indexGrowsRow.holds Try.pinned (OpenSpec.ofChange indexGrowsSpec)

/-- ITS FALSE NEIGHBOUR: 'it returns false'. Refute it at one input. -/
def indexGrowsWrong : ChangeSpec := { name := "indexGrows", fn := fun _ => fun
  | [d1, d2, d3] => { results := [.lit (.bool false)], args := [d1, d2, d3] }
  | _ => none }
def IndexGrowsWrongFalsely : Prop := indexGrowsRow.holds Try.pinned (OpenSpec.ofChange indexGrowsWrong)

/-- 'treasurylaw35.ReopeningCosts': WHATEVER THE INPUT: true; the input reads as it did. -/
def reopeningCostsSpec : ChangeSpec := { name := "reopeningCosts", fn := fun _ => fun
  | [d1, d2, d3] => { results := [.lit (.bool true)], args := [d1, d2, d3] }
  | _ => none }
def reopeningCostsRow : OpenClaim := { program := "ytkbkohkhpmpddaa", sum := "9fb6908aa6d034de3214c0d60f99c5721bca015f6f26b284aa4b4dd0f58c557f", func := "treasury/treasurylaw35.ReopeningCosts", spec := "reopeningCosts", apart := false }
def ReopeningCostsSaid : Prop := reopeningCostsRow.holds Try.pinned (OpenSpec.ofChange reopeningCostsSpec)

/-- ITS FALSE NEIGHBOUR: 'it returns false'. Refute it at one input. -/
def reopeningCostsWrong : ChangeSpec := { name := "reopeningCosts", fn := fun _ => fun
  | [d1, d2, d3] => { results := [.lit (.bool false)], args := [d1, d2, d3] }
  | _ => none }
def ReopeningCostsWrongFalsely : Prop := reopeningCostsRow.holds Try.pinned (OpenSpec.ofChange reopeningCostsWrong)

/-- 'treasurylaw36.IndexChains': WHATEVER THE INPUT: true; the input reads as it did. -/
def indexChainsSpec : ChangeSpec := { name := "indexChains", fn := fun _ => fun
  | [d1, d2] => { results := [.lit (.bool true)], args := [d1, d2] }
  | _ => none }
def indexChainsRow : OpenClaim := { program := "ytkbkohkhpmpddaa", sum := "9fb6908aa6d034de3214c0d60f99c5721bca015f6f26b284aa4b4dd0f58c557f", func := "treasury/treasurylaw36.IndexChains", spec := "indexChains", unfollowed := true, recurses := true, apart := false }
def IndexChainsSaid : Prop := indexChainsRow.holds Try.pinned (OpenSpec.ofChange indexChainsSpec)

/-- ITS FALSE NEIGHBOUR: 'it returns false'. Refute it at one input. -/
def indexChainsWrong : ChangeSpec := { name := "indexChains", fn := fun _ => fun
  | [d1, d2] => { results := [.lit (.bool false)], args := [d1, d2] }
  | _ => none }
def IndexChainsWrongFalsely : Prop := indexChainsRow.holds Try.pinned (OpenSpec.ofChange indexChainsWrong)

/-- 'treasurylaw01.MoneyParts': WHATEVER THE INPUT: true; the input reads as it did. -/
def moneyPartsSpec : ChangeSpec := { name := "moneyParts", fn := fun _ => fun
  | [d] => { results := [.lit (.bool true)], args := [d] }
  | _ => none }
def moneyPartsRow : OpenClaim := { program := "ytkbkohkhpmpddaa", sum := "9fb6908aa6d034de3214c0d60f99c5721bca015f6f26b284aa4b4dd0f58c557f", func := "treasury/treasurylaw01.MoneyParts", spec := "moneyParts", unfollowed := true, recurses := true, apart := false }
def MoneyPartsSaid : Prop := moneyPartsRow.holds Try.pinned (OpenSpec.ofChange moneyPartsSpec)

/-- ITS FALSE NEIGHBOUR: 'it returns false'. Refute it at one input. -/
def moneyPartsWrong : ChangeSpec := { name := "moneyParts", fn := fun _ => fun
  | [d] => { results := [.lit (.bool false)], args := [d] }
  | _ => none }
def MoneyPartsWrongFalsely : Prop := moneyPartsRow.holds Try.pinned (OpenSpec.ofChange moneyPartsWrong)

/-- 'treasurylaw01.MoneyShares': WHATEVER THE INPUT: true; the input reads as it did. -/
def moneySharesSpec : ChangeSpec := { name := "moneyShares", fn := fun _ => fun
  | [d1, d2, d3, d4, d5] => { results := [.lit (.bool true)], args := [d1, d2, d3, d4, d5] }
  | _ => none }
def moneySharesRow : OpenClaim := { program := "ytkbkohkhpmpddaa", sum := "9fb6908aa6d034de3214c0d60f99c5721bca015f6f26b284aa4b4dd0f58c557f", func := "treasury/treasurylaw01.MoneyShares", spec := "moneyShares", unfollowed := true, recurses := true, apart := false }
def MoneySharesSaid : Prop := moneySharesRow.holds Try.pinned (OpenSpec.ofChange moneySharesSpec)

/-- ITS FALSE NEIGHBOUR: 'it returns false'. Refute it at one input. -/
def moneySharesWrong : ChangeSpec := { name := "moneyShares", fn := fun _ => fun
  | [d1, d2, d3, d4, d5] => { results := [.lit (.bool false)], args := [d1, d2, d3, d4, d5] }
  | _ => none }
def MoneySharesWrongFalsely : Prop := moneySharesRow.holds Try.pinned (OpenSpec.ofChange moneySharesWrong)

/-- 'treasurylaw01.MoneySums': WHATEVER THE INPUT: true; the input reads as it did. -/
def moneySumsSpec : ChangeSpec := { name := "moneySums", fn := fun _ => fun
  | [d] => { results := [.lit (.bool true)], args := [d] }
  | _ => none }
def moneySumsRow : OpenClaim := { program := "ytkbkohkhpmpddaa", sum := "9fb6908aa6d034de3214c0d60f99c5721bca015f6f26b284aa4b4dd0f58c557f", func := "treasury/treasurylaw01.MoneySums", spec := "moneySums", unfollowed := true, recurses := true, apart := false }
def MoneySumsSaid : Prop := moneySumsRow.holds Try.pinned (OpenSpec.ofChange moneySumsSpec)

/-- ITS FALSE NEIGHBOUR: 'it returns false'. Refute it at one input. -/
def moneySumsWrong : ChangeSpec := { name := "moneySums", fn := fun _ => fun
  | [d] => { results := [.lit (.bool false)], args := [d] }
  | _ => none }
def MoneySumsWrongFalsely : Prop := moneySumsRow.holds Try.pinned (OpenSpec.ofChange moneySumsWrong)

/-- 'treasurylaw01.MoneyAnswers': WHATEVER THE INPUT: true; the input reads as it did. -/
def moneyAnswersSpec : ChangeSpec := { name := "moneyAnswers", fn := fun _ => fun
  | [d1, d2, d3, d4, d5] => { results := [.lit (.bool true)], args := [d1, d2, d3, d4, d5] }
  | _ => none }
def moneyAnswersRow : OpenClaim := { program := "ytkbkohkhpmpddaa", sum := "9fb6908aa6d034de3214c0d60f99c5721bca015f6f26b284aa4b4dd0f58c557f", func := "treasury/treasurylaw01.MoneyAnswers", spec := "moneyAnswers", unfollowed := true, recurses := true, apart := false }
def MoneyAnswersSaid : Prop := moneyAnswersRow.holds Try.pinned (OpenSpec.ofChange moneyAnswersSpec)

/-- ITS FALSE NEIGHBOUR: 'it returns false'. Refute it at one input. -/
def moneyAnswersWrong : ChangeSpec := { name := "moneyAnswers", fn := fun _ => fun
  | [d1, d2, d3, d4, d5] => { results := [.lit (.bool false)], args := [d1, d2, d3, d4, d5] }
  | _ => none }
def MoneyAnswersWrongFalsely : Prop := moneyAnswersRow.holds Try.pinned (OpenSpec.ofChange moneyAnswersWrong)

/- THE SECOND FORM. 'bulk': how many values and letters a reading holds, each counted each time it is reached (what is shared counts as often as it is met; a slice's spare places count too). A statement '..UptoSaid' is the law's where the arguments, and the package variables that the reading takes, are together of bulk at most 1048576: NARROWER than '..Said'. Prove '..Said' where nothing that the law and all that it calls make is longer than what came in: it says more and counts as full. Else prove '..UptoSaid'. A law counts once. -/
mutual
def uptoBulk {H : Type} : DataW H → Nat
  | .lit (.string bytes) => bytes.length + 1
  | .lit _ => 1
  | .nil => 1
  | .ptr d => uptoBulk d + 1
  | .slice elems spare => uptoBulkAll elems + uptoBulkAll spare + 1
  | .agg parts => uptoBulkAll parts + 1
  | .iface _ d => uptoBulk d + 1
  | .map entries => uptoBulkEntries entries + 1
  | .held _ => 1
def uptoBulkAll {H : Type} : List (DataW H) → Nat
  | [] => 0
  | d :: r => uptoBulk d + uptoBulkAll r
def uptoBulkEntries {H : Type} : List (Lit × DataW H) → Nat
  | [] => 0
  | x :: r => uptoBulkEntry x + uptoBulkEntries r
def uptoBulkEntry {H : Type} : Lit × DataW H → Nat
  | (.string bytes, d) => bytes.length + uptoBulk d + 1
  | (_, d) => uptoBulk d + 1
 end
def uptoSmall : (H : Type) → List (DataW H) → Bool := fun _ ds => decide (uptoBulkAll ds ≤ 1048576)
def OpenSpec.upto (s : _root_.Go.ChangeSpec) : _root_.Go.OpenSpec := { _root_.Go.OpenSpec.ofChange s with cond := some uptoSmall }

/-- 'treasurylaw34.CouponParts', WHERE WHAT IT READS IS OF BULK AT MOST 1048576: true; the input reads as it did. -/
def couponPartsUptoRow : OpenClaim := { program := "ytkbkohkhpmpddaa", sum := "9fb6908aa6d034de3214c0d60f99c5721bca015f6f26b284aa4b4dd0f58c557f", func := "treasury/treasurylaw34.CouponParts", spec := "couponParts", apart := false, narrowed := true }
def CouponPartsUptoSaid : Prop := couponPartsUptoRow.holds Try.pinned (OpenSpec.upto couponPartsSpec)

/-- 'treasurylaw34.CouponAccrues', WHERE WHAT IT READS IS OF BULK AT MOST 1048576: true; the input reads as it did. -/
def couponAccruesUptoRow : OpenClaim := { program := "ytkbkohkhpmpddaa", sum := "9fb6908aa6d034de3214c0d60f99c5721bca015f6f26b284aa4b4dd0f58c557f", func := "treasury/treasurylaw34.CouponAccrues", spec := "couponAccrues", apart := false, narrowed := true }
def CouponAccruesUptoSaid : Prop := couponAccruesUptoRow.holds Try.pinned (OpenSpec.upto couponAccruesSpec)

/-- 'treasurylaw34.CouponDays', WHERE WHAT IT READS IS OF BULK AT MOST 1048576: true; the input reads as it did. -/
def couponDaysUptoRow : OpenClaim := { program := "ytkbkohkhpmpddaa", sum := "9fb6908aa6d034de3214c0d60f99c5721bca015f6f26b284aa4b4dd0f58c557f", func := "treasury/treasurylaw34.CouponDays", spec := "couponDays", apart := false, narrowed := true }
def CouponDaysUptoSaid : Prop := couponDaysUptoRow.holds Try.pinned (OpenSpec.upto couponDaysSpec)

/-- 'treasurylaw34.CouponLife', WHERE WHAT IT READS IS OF BULK AT MOST 1048576: true; the input reads as it did. -/
def couponLifeUptoRow : OpenClaim := { program := "ytkbkohkhpmpddaa", sum := "9fb6908aa6d034de3214c0d60f99c5721bca015f6f26b284aa4b4dd0f58c557f", func := "treasury/treasurylaw34.CouponLife", spec := "couponLife", apart := false, narrowed := true }
def CouponLifeUptoSaid : Prop := couponLifeUptoRow.holds Try.pinned (OpenSpec.upto couponLifeSpec)

/-- 'treasurylaw36.IndexGrows', WHERE WHAT IT READS IS OF BULK AT MOST 1048576: true; the input reads as it did. -/
def indexGrowsUptoRow : OpenClaim := { program := "ytkbkohkhpmpddaa", sum := "9fb6908aa6d034de3214c0d60f99c5721bca015f6f26b284aa4b4dd0f58c557f", func := "treasury/treasurylaw36.IndexGrows", spec := "indexGrows", unfollowed := true, recurses := true, apart := false, narrowed := true }
def IndexGrowsUptoSaid : Prop := indexGrowsUptoRow.holds Try.pinned (OpenSpec.upto indexGrowsSpec)

/-- 'treasurylaw35.ReopeningCosts', WHERE WHAT IT READS IS OF BULK AT MOST 1048576: true; the input reads as it did. -/
def reopeningCostsUptoRow : OpenClaim := { program := "ytkbkohkhpmpddaa", sum := "9fb6908aa6d034de3214c0d60f99c5721bca015f6f26b284aa4b4dd0f58c557f", func := "treasury/treasurylaw35.ReopeningCosts", spec := "reopeningCosts", apart := false, narrowed := true }
def ReopeningCostsUptoSaid : Prop := reopeningCostsUptoRow.holds Try.pinned (OpenSpec.upto reopeningCostsSpec)

/-- 'treasurylaw36.IndexChains', WHERE WHAT IT READS IS OF BULK AT MOST 1048576: true; the input reads as it did. -/
def indexChainsUptoRow : OpenClaim := { program := "ytkbkohkhpmpddaa", sum := "9fb6908aa6d034de3214c0d60f99c5721bca015f6f26b284aa4b4dd0f58c557f", func := "treasury/treasurylaw36.IndexChains", spec := "indexChains", unfollowed := true, recurses := true, apart := false, narrowed := true }
def IndexChainsUptoSaid : Prop := indexChainsUptoRow.holds Try.pinned (OpenSpec.upto indexChainsSpec)

/-- 'treasurylaw01.MoneyParts', WHERE WHAT IT READS IS OF BULK AT MOST 1048576: true; the input reads as it did. -/
def moneyPartsUptoRow : OpenClaim := { program := "ytkbkohkhpmpddaa", sum := "9fb6908aa6d034de3214c0d60f99c5721bca015f6f26b284aa4b4dd0f58c557f", func := "treasury/treasurylaw01.MoneyParts", spec := "moneyParts", unfollowed := true, recurses := true, apart := false, narrowed := true }
def MoneyPartsUptoSaid : Prop := moneyPartsUptoRow.holds Try.pinned (OpenSpec.upto moneyPartsSpec)

/-- 'treasurylaw01.MoneyShares', WHERE WHAT IT READS IS OF BULK AT MOST 1048576: true; the input reads as it did. -/
def moneySharesUptoRow : OpenClaim := { program := "ytkbkohkhpmpddaa", sum := "9fb6908aa6d034de3214c0d60f99c5721bca015f6f26b284aa4b4dd0f58c557f", func := "treasury/treasurylaw01.MoneyShares", spec := "moneyShares", unfollowed := true, recurses := true, apart := false, narrowed := true }
def MoneySharesUptoSaid : Prop := moneySharesUptoRow.holds Try.pinned (OpenSpec.upto moneySharesSpec)

/-- 'treasurylaw01.MoneySums', WHERE WHAT IT READS IS OF BULK AT MOST 1048576: true; the input reads as it did. -/
def moneySumsUptoRow : OpenClaim := { program := "ytkbkohkhpmpddaa", sum := "9fb6908aa6d034de3214c0d60f99c5721bca015f6f26b284aa4b4dd0f58c557f", func := "treasury/treasurylaw01.MoneySums", spec := "moneySums", unfollowed := true, recurses := true, apart := false, narrowed := true }
def MoneySumsUptoSaid : Prop := moneySumsUptoRow.holds Try.pinned (OpenSpec.upto moneySumsSpec)

/-- 'treasurylaw01.MoneyAnswers', WHERE WHAT IT READS IS OF BULK AT MOST 1048576: true; the input reads as it did. -/
def moneyAnswersUptoRow : OpenClaim := { program := "ytkbkohkhpmpddaa", sum := "9fb6908aa6d034de3214c0d60f99c5721bca015f6f26b284aa4b4dd0f58c557f", func := "treasury/treasurylaw01.MoneyAnswers", spec := "moneyAnswers", unfollowed := true, recurses := true, apart := false, narrowed := true }
def MoneyAnswersUptoSaid : Prop := moneyAnswersUptoRow.holds Try.pinned (OpenSpec.upto moneyAnswersSpec)

end Rows
end Go.Proofs.Ytkbkohkhpmpddaa
