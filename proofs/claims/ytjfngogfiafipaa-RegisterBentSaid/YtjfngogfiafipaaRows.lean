/-
  No cell of these rows narrows 'for every input' (looked for: loops, veiled, ifaces, maps, wideKeys, modest, calm, conditions, laid).
  DERIVED. THE GIVEN ROWS OF THIS SEAT. 8 by the template 'for every input the law returns true; each argument reads behind the call as it read before'; 0 by the template 'total and deterministic' (their statements: YtjfngogfiafipaaTotals.lean).
  GIVEN WITH THE SEED: the statements are not yours to turn. If you find one false, say at which input.
  Laid BY PROGRAM, IN A SANDBOX (cutbox-rows.mjs): the forced cells as the released guide's own fill.sh prints them over the translation f6f0fa2210528a25… (all of the seat's roots in one cut). By AI agents, Wed Nov 11 2026. No macro, syntax, notation, axiom, sorry.
-/
import Derived.Test.YtjfngogfiafipaaChecked
import GoSem.Claim
import GoSem.ClaimJoined
import GoSem.ClaimMapViews
import Derived.JoinedTies
import Derived.KernelRfl
namespace Go.Proofs.Ytjfngogfiafipaa
/- THE CELL 'sum', in the pinned program and in every row, IS THE sha256 OF THE DUMP (.gsa) THAT YtjfngogfiafipaaProg.lean LOADS. Nothing in Lean hashes anything: it is a label: what it is worth is what the hold of that sum in a sandbox is worth. -/
noncomputable def Try.pinned : Pinned := { name := "ytjfngogfiafipaa", sum := "f6f0fa2210528a25ca4a73e7b51617680f067a27c78ffd3b2242d86139bcbb53", checked := Try.checked }
namespace Rows
def none {H : Type} : Left H := { results := [], args := [] }

/-- 'treasurylaw33.RegisterOthers': WHATEVER THE INPUT: true; the input reads as it did. -/
def registerOthersSpec : ChangeSpec := { name := "registerOthers", fn := fun _ => fun
  | [d] => { results := [.lit (.bool true)], args := [d] }
  | _ => none }
def registerOthersRow : OpenClaim := { program := "ytjfngogfiafipaa", sum := "f6f0fa2210528a25ca4a73e7b51617680f067a27c78ffd3b2242d86139bcbb53", func := "treasury/treasurylaw33.RegisterOthers", spec := "registerOthers", inPlace := ["slices.overlaps[treasury/api.Holding]", "slices.overlaps[treasury/api.Security]"], unfollowed := true, recurses := true, apart := false }
def RegisterOthersSaid : Prop := registerOthersRow.holds Try.pinned (OpenSpec.ofChange registerOthersSpec)

/-- ITS FALSE NEIGHBOUR: 'it returns false'. Refute it at one input. -/
def registerOthersWrong : ChangeSpec := { name := "registerOthers", fn := fun _ => fun
  | [d] => { results := [.lit (.bool false)], args := [d] }
  | _ => none }
def RegisterOthersWrongFalsely : Prop := registerOthersRow.holds Try.pinned (OpenSpec.ofChange registerOthersWrong)

/-- 'treasurylaw33.RegisterDays': WHATEVER THE INPUT: true; the input reads as it did. -/
def registerDaysSpec : ChangeSpec := { name := "registerDays", fn := fun _ => fun
  | [d1, d2] => { results := [.lit (.bool true)], args := [d1, d2] }
  | _ => none }
def registerDaysRow : OpenClaim := { program := "ytjfngogfiafipaa", sum := "f6f0fa2210528a25ca4a73e7b51617680f067a27c78ffd3b2242d86139bcbb53", func := "treasury/treasurylaw33.RegisterDays", spec := "registerDays", inPlace := ["slices.overlaps[treasury/api.Holding]", "slices.overlaps[treasury/api.Security]"], unfollowed := true, recurses := true, apart := false }
def RegisterDaysSaid : Prop := registerDaysRow.holds Try.pinned (OpenSpec.ofChange registerDaysSpec)

/-- ITS FALSE NEIGHBOUR: 'it returns false'. Refute it at one input. -/
def registerDaysWrong : ChangeSpec := { name := "registerDays", fn := fun _ => fun
  | [d1, d2] => { results := [.lit (.bool false)], args := [d1, d2] }
  | _ => none }
def RegisterDaysWrongFalsely : Prop := registerDaysRow.holds Try.pinned (OpenSpec.ofChange registerDaysWrong)

/-- 'treasurylaw33.RegisterSums': WHATEVER THE INPUT: true; the input reads as it did. -/
def registerSumsSpec : ChangeSpec := { name := "registerSums", fn := fun _ => fun
  | [d] => { results := [.lit (.bool true)], args := [d] }
  | _ => none }
def registerSumsRow : OpenClaim := { program := "ytjfngogfiafipaa", sum := "f6f0fa2210528a25ca4a73e7b51617680f067a27c78ffd3b2242d86139bcbb53", func := "treasury/treasurylaw33.RegisterSums", spec := "registerSums", inPlace := ["slices.overlaps[treasury/api.Holding]", "slices.overlaps[treasury/api.Security]"], unfollowed := true, recurses := true, apart := false }
def RegisterSumsSaid : Prop := registerSumsRow.holds Try.pinned (OpenSpec.ofChange registerSumsSpec)

/-- ITS FALSE NEIGHBOUR: 'it returns false'. Refute it at one input. -/
def registerSumsWrong : ChangeSpec := { name := "registerSums", fn := fun _ => fun
  | [d] => { results := [.lit (.bool false)], args := [d] }
  | _ => none }
def RegisterSumsWrongFalsely : Prop := registerSumsRow.holds Try.pinned (OpenSpec.ofChange registerSumsWrong)

/-- 'treasurylaw33.RegisterMoves': WHATEVER THE INPUT: true; the input reads as it did. -/
def registerMovesSpec : ChangeSpec := { name := "registerMoves", fn := fun _ => fun
  | [d] => { results := [.lit (.bool true)], args := [d] }
  | _ => none }
def registerMovesRow : OpenClaim := { program := "ytjfngogfiafipaa", sum := "f6f0fa2210528a25ca4a73e7b51617680f067a27c78ffd3b2242d86139bcbb53", func := "treasury/treasurylaw33.RegisterMoves", spec := "registerMoves", inPlace := ["slices.overlaps[treasury/api.Holding]", "slices.overlaps[treasury/api.Security]"], unfollowed := true, recurses := true, apart := false }
def RegisterMovesSaid : Prop := registerMovesRow.holds Try.pinned (OpenSpec.ofChange registerMovesSpec)

/-- ITS FALSE NEIGHBOUR: 'it returns false'. Refute it at one input. -/
def registerMovesWrong : ChangeSpec := { name := "registerMoves", fn := fun _ => fun
  | [d] => { results := [.lit (.bool false)], args := [d] }
  | _ => none }
def RegisterMovesWrongFalsely : Prop := registerMovesRow.holds Try.pinned (OpenSpec.ofChange registerMovesWrong)

/-- 'treasurylaw33.RegisterBent': WHATEVER THE INPUT: true; the input reads as it did. -/
def registerBentSpec : ChangeSpec := { name := "registerBent", fn := fun _ => fun
  | [d] => { results := [.lit (.bool true)], args := [d] }
  | _ => none }
def registerBentRow : OpenClaim := { program := "ytjfngogfiafipaa", sum := "f6f0fa2210528a25ca4a73e7b51617680f067a27c78ffd3b2242d86139bcbb53", func := "treasury/treasurylaw33.RegisterBent", spec := "registerBent", inPlace := ["slices.overlaps[treasury/api.Holding]", "slices.overlaps[treasury/api.Security]"], unfollowed := true, recurses := true, apart := false }
def RegisterBentSaid : Prop := registerBentRow.holds Try.pinned (OpenSpec.ofChange registerBentSpec)

/-- ITS FALSE NEIGHBOUR: 'it returns false'. Refute it at one input. -/
def registerBentWrong : ChangeSpec := { name := "registerBent", fn := fun _ => fun
  | [d] => { results := [.lit (.bool false)], args := [d] }
  | _ => none }
def RegisterBentWrongFalsely : Prop := registerBentRow.holds Try.pinned (OpenSpec.ofChange registerBentWrong)

/-- 'treasurylaw33.RegisterExact': WHATEVER THE INPUT: true; the input reads as it did. -/
def registerExactSpec : ChangeSpec := { name := "registerExact", fn := fun _ => fun
  | [d1, d2, d3, d4, d5, d6, d7, d8] => { results := [.lit (.bool true)], args := [d1, d2, d3, d4, d5, d6, d7, d8] }
  | _ => none }
def registerExactRow : OpenClaim := { program := "ytjfngogfiafipaa", sum := "f6f0fa2210528a25ca4a73e7b51617680f067a27c78ffd3b2242d86139bcbb53", func := "treasury/treasurylaw33.RegisterExact", spec := "registerExact", inPlace := ["slices.overlaps[treasury/api.Holding]", "slices.overlaps[treasury/api.Security]"], unfollowed := true, recurses := true, apart := false }
def RegisterExactSaid : Prop := registerExactRow.holds Try.pinned (OpenSpec.ofChange registerExactSpec)

/-- ITS FALSE NEIGHBOUR: 'it returns false'. Refute it at one input. -/
def registerExactWrong : ChangeSpec := { name := "registerExact", fn := fun _ => fun
  | [d1, d2, d3, d4, d5, d6, d7, d8] => { results := [.lit (.bool false)], args := [d1, d2, d3, d4, d5, d6, d7, d8] }
  | _ => none }
def RegisterExactWrongFalsely : Prop := registerExactRow.holds Try.pinned (OpenSpec.ofChange registerExactWrong)

/-- 'treasurylaw34.CouponPending': WHATEVER THE INPUT: true; the input reads as it did. -/
def couponPendingSpec : ChangeSpec := { name := "couponPending", fn := fun _ => fun
  | [d] => { results := [.lit (.bool true)], args := [d] }
  | _ => none }
def couponPendingRow : OpenClaim := { program := "ytjfngogfiafipaa", sum := "f6f0fa2210528a25ca4a73e7b51617680f067a27c78ffd3b2242d86139bcbb53", func := "treasury/treasurylaw34.CouponPending", spec := "couponPending", inPlace := ["slices.overlaps[treasury/api.Holding]"], unfollowed := true, recurses := true, apart := false }
def CouponPendingSaid : Prop := couponPendingRow.holds Try.pinned (OpenSpec.ofChange couponPendingSpec)

/-- ITS FALSE NEIGHBOUR: 'it returns false'. Refute it at one input. -/
def couponPendingWrong : ChangeSpec := { name := "couponPending", fn := fun _ => fun
  | [d] => { results := [.lit (.bool false)], args := [d] }
  | _ => none }
def CouponPendingWrongFalsely : Prop := couponPendingRow.holds Try.pinned (OpenSpec.ofChange couponPendingWrong)

/-- 'treasurylaw34.CouponFlows': WHATEVER THE INPUT: true; the input reads as it did. -/
def couponFlowsSpec : ChangeSpec := { name := "couponFlows", fn := fun _ => fun
  | [d] => { results := [.lit (.bool true)], args := [d] }
  | _ => none }
def couponFlowsRow : OpenClaim := { program := "ytjfngogfiafipaa", sum := "f6f0fa2210528a25ca4a73e7b51617680f067a27c78ffd3b2242d86139bcbb53", func := "treasury/treasurylaw34.CouponFlows", spec := "couponFlows", inPlace := ["slices.overlaps[treasury/api.Holding]"], unfollowed := true, recurses := true, apart := false }
def CouponFlowsSaid : Prop := couponFlowsRow.holds Try.pinned (OpenSpec.ofChange couponFlowsSpec)

/-- ITS FALSE NEIGHBOUR: 'it returns false'. Refute it at one input. -/
def couponFlowsWrong : ChangeSpec := { name := "couponFlows", fn := fun _ => fun
  | [d] => { results := [.lit (.bool false)], args := [d] }
  | _ => none }
def CouponFlowsWrongFalsely : Prop := couponFlowsRow.holds Try.pinned (OpenSpec.ofChange couponFlowsWrong)

/- THE SECOND FORM. 'bulk': how many values and letters a reading holds, each counted each time it is reached (what is shared counts as often as it is met; a slice's spare places count too). A statement '..UptoSaid' is the law's where the arguments, and the package variables that the reading takes, are together of bulk at most 1048576: NARROWER than '..Said'. Prove '..Said' where nothing that the law and all that it calls make is longer than what came in: it says more and counts as full. Else prove '..UptoSaid'. A law counts once. -/
mutual
def uptoBulk {H : Type} : DataW H → Nat
  | .lit (.string bytes) => bytes.length + 1
  | .lit _ => 1
  | .nil => 1
  | .ptr d => uptoBulk d + 1
  | .slice elems spare => uptoBulkAll elems + uptoBulkAll spare + 1
  | .agg parts => uptoBulkAll parts + 1
  | .iface _ d => uptoBulk d + 1
  | .map entries => uptoBulkEntries entries + 1
  | .held _ => 1
def uptoBulkAll {H : Type} : List (DataW H) → Nat
  | [] => 0
  | d :: r => uptoBulk d + uptoBulkAll r
def uptoBulkEntries {H : Type} : List (Lit × DataW H) → Nat
  | [] => 0
  | x :: r => uptoBulkEntry x + uptoBulkEntries r
def uptoBulkEntry {H : Type} : Lit × DataW H → Nat
  | (.string bytes, d) => bytes.length + uptoBulk d + 1
  | (_, d) => uptoBulk d + 1
 end
def uptoSmall : (H : Type) → List (DataW H) → Bool := fun _ ds => decide (uptoBulkAll ds ≤ 1048576)
def OpenSpec.upto (s : _root_.Go.ChangeSpec) : _root_.Go.OpenSpec := { _root_.Go.OpenSpec.ofChange s with cond := some uptoSmall }

/-- 'treasurylaw33.RegisterOthers', WHERE WHAT IT READS IS OF BULK AT MOST 1048576: true; the input reads as it did. -/
def registerOthersUptoRow : OpenClaim := { program := "ytjfngogfiafipaa", sum := "f6f0fa2210528a25ca4a73e7b51617680f067a27c78ffd3b2242d86139bcbb53", func := "treasury/treasurylaw33.RegisterOthers", spec := "registerOthers", inPlace := ["slices.overlaps[treasury/api.Holding]", "slices.overlaps[treasury/api.Security]"], unfollowed := true, recurses := true, apart := false, narrowed := true }
def RegisterOthersUptoSaid : Prop := registerOthersUptoRow.holds Try.pinned (OpenSpec.upto registerOthersSpec)

/-- 'treasurylaw33.RegisterDays', WHERE WHAT IT READS IS OF BULK AT MOST 1048576: true; the input reads as it did. -/
def registerDaysUptoRow : OpenClaim := { program := "ytjfngogfiafipaa", sum := "f6f0fa2210528a25ca4a73e7b51617680f067a27c78ffd3b2242d86139bcbb53", func := "treasury/treasurylaw33.RegisterDays", spec := "registerDays", inPlace := ["slices.overlaps[treasury/api.Holding]", "slices.overlaps[treasury/api.Security]"], unfollowed := true, recurses := true, apart := false, narrowed := true }
def RegisterDaysUptoSaid : Prop := registerDaysUptoRow.holds Try.pinned (OpenSpec.upto registerDaysSpec)

/-- 'treasurylaw33.RegisterSums', WHERE WHAT IT READS IS OF BULK AT MOST 1048576: true; the input reads as it did. -/
def registerSumsUptoRow : OpenClaim := { program := "ytjfngogfiafipaa", sum := "f6f0fa2210528a25ca4a73e7b51617680f067a27c78ffd3b2242d86139bcbb53", func := "treasury/treasurylaw33.RegisterSums", spec := "registerSums", inPlace := ["slices.overlaps[treasury/api.Holding]", "slices.overlaps[treasury/api.Security]"], unfollowed := true, recurses := true, apart := false, narrowed := true }
def RegisterSumsUptoSaid : Prop := registerSumsUptoRow.holds Try.pinned (OpenSpec.upto registerSumsSpec)

/-- 'treasurylaw33.RegisterMoves', WHERE WHAT IT READS IS OF BULK AT MOST 1048576: true; the input reads as it did. -/
def registerMovesUptoRow : OpenClaim := { program := "ytjfngogfiafipaa", sum := "f6f0fa2210528a25ca4a73e7b51617680f067a27c78ffd3b2242d86139bcbb53", func := "treasury/treasurylaw33.RegisterMoves", spec := "registerMoves", inPlace := ["slices.overlaps[treasury/api.Holding]", "slices.overlaps[treasury/api.Security]"], unfollowed := true, recurses := true, apart := false, narrowed := true }
def RegisterMovesUptoSaid : Prop := registerMovesUptoRow.holds Try.pinned (OpenSpec.upto registerMovesSpec)

/-- 'treasurylaw33.RegisterBent', WHERE WHAT IT READS IS OF BULK AT MOST 1048576: true; the input reads as it did. -/
def registerBentUptoRow : OpenClaim := { program := "ytjfngogfiafipaa", sum := "f6f0fa2210528a25ca4a73e7b51617680f067a27c78ffd3b2242d86139bcbb53", func := "treasury/treasurylaw33.RegisterBent", spec := "registerBent", inPlace := ["slices.overlaps[treasury/api.Holding]", "slices.overlaps[treasury/api.Security]"], unfollowed := true, recurses := true, apart := false, narrowed := true }
def RegisterBentUptoSaid : Prop := registerBentUptoRow.holds Try.pinned (OpenSpec.upto registerBentSpec)

/-- 'treasurylaw33.RegisterExact', WHERE WHAT IT READS IS OF BULK AT MOST 1048576: true; the input reads as it did. -/
def registerExactUptoRow : OpenClaim := { program := "ytjfngogfiafipaa", sum := "f6f0fa2210528a25ca4a73e7b51617680f067a27c78ffd3b2242d86139bcbb53", func := "treasury/treasurylaw33.RegisterExact", spec := "registerExact", inPlace := ["slices.overlaps[treasury/api.Holding]", "slices.overlaps[treasury/api.Security]"], unfollowed := true, recurses := true, apart := false, narrowed := true }
def RegisterExactUptoSaid : Prop := registerExactUptoRow.holds Try.pinned (OpenSpec.upto registerExactSpec)

/-- 'treasurylaw34.CouponPending', WHERE WHAT IT READS IS OF BULK AT MOST 1048576: true; the input reads as it did. -/
def couponPendingUptoRow : OpenClaim := { program := "ytjfngogfiafipaa", sum := "f6f0fa2210528a25ca4a73e7b51617680f067a27c78ffd3b2242d86139bcbb53", func := "treasury/treasurylaw34.CouponPending", spec := "couponPending", inPlace := ["slices.overlaps[treasury/api.Holding]"], unfollowed := true, recurses := true, apart := false, narrowed := true }
def CouponPendingUptoSaid : Prop := couponPendingUptoRow.holds Try.pinned (OpenSpec.upto couponPendingSpec)

/-- 'treasurylaw34.CouponFlows', WHERE WHAT IT READS IS OF BULK AT MOST 1048576: true; the input reads as it did. -/
def couponFlowsUptoRow : OpenClaim := { program := "ytjfngogfiafipaa", sum := "f6f0fa2210528a25ca4a73e7b51617680f067a27c78ffd3b2242d86139bcbb53", func := "treasury/treasurylaw34.CouponFlows", spec := "couponFlows", inPlace := ["slices.overlaps[treasury/api.Holding]"], unfollowed := true, recurses := true, apart := false, narrowed := true }
def CouponFlowsUptoSaid : Prop := couponFlowsUptoRow.holds Try.pinned (OpenSpec.upto couponFlowsSpec)

end Rows
end Go.Proofs.Ytjfngogfiafipaa
