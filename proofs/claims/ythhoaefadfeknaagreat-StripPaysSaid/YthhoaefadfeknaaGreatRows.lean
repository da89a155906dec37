/-
  No cell of these rows narrows 'for every input' (looked for: loops, veiled, ifaces, maps, wideKeys, modest, calm, conditions, laid).
  DERIVED. THE GIVEN ROWS OF THIS SEAT. 8 by the template 'for every input the law returns true; each argument reads behind the call as it read before'; 0 by the template 'total and deterministic' (their statements: YthhoaefadfeknaaGreatTotals.lean).
  GIVEN WITH THE SEED: the statements are not yours to turn. If you find one false, say at which input.
  Laid BY PROGRAM, IN A SANDBOX (cutbox-rows.mjs): the forced cells as the released guide's own fill.sh prints them over the translation 908fa911699b1703… (all of the seat's roots in one cut). By AI agents, Wed Nov 11 2026. No macro, syntax, notation, axiom, sorry.
-/
import Derived.Test.YthhoaefadfeknaaGreatChecked
import GoSem.Claim
import GoSem.ClaimJoined
import GoSem.ClaimMapViews
import Derived.JoinedTies
import Derived.KernelRfl
namespace Go.Proofs.YthhoaefadfeknaaGreat
/- THE CELL 'sum', in the pinned program and in every row, IS THE sha256 OF THE DUMP (.gsa) THAT YthhoaefadfeknaaGreatProg.lean LOADS. Nothing in Lean hashes anything: it is a label: what it is worth is what the hold of that sum in a sandbox is worth. -/
noncomputable def Tryz.pinned : Pinned := { name := "ythhoaefadfeknaagreat", sum := "908fa911699b1703aa57655382ef2c3e44eba68391f47d2a2d58d5a90015fe54", checked := Tryz.checked }
namespace Rows
def none {H : Type} : Left H := { results := [], args := [] }

/-- 'treasurylaw36.IndexExact': WHATEVER THE INPUT: true; the input reads as it did. -/
def indexExactSpec : ChangeSpec := { name := "indexExact", fn := fun _ => fun
  | [d1, d2, d3, d4, d5, d6] => { results := [.lit (.bool true)], args := [d1, d2, d3, d4, d5, d6] }
  | _ => none }
def indexExactRow : OpenClaim := { program := "ythhoaefadfeknaagreat", sum := "908fa911699b1703aa57655382ef2c3e44eba68391f47d2a2d58d5a90015fe54", func := "treasury/treasurylaw36.IndexExact", spec := "indexExact", inPlace := ["slices.overlaps[treasury/api.Holding]"], unfollowed := true, recurses := true, apart := false }
def IndexExactSaid : Prop := indexExactRow.holds Tryz.pinned (OpenSpec.ofChange indexExactSpec)

/-- ITS FALSE NEIGHBOUR: 'it returns false'. Refute it at one input. -/
def indexExactWrong : ChangeSpec := { name := "indexExact", fn := fun _ => fun
  | [d1, d2, d3, d4, d5, d6] => { results := [.lit (.bool false)], args := [d1, d2, d3, d4, d5, d6] }
  | _ => none }
def IndexExactWrongFalsely : Prop := indexExactRow.holds Tryz.pinned (OpenSpec.ofChange indexExactWrong)

/-- 'treasurylaw37.StripRights': WHATEVER THE INPUT: true; the input reads as it did. -/
def stripRightsSpec : ChangeSpec := { name := "stripRights", fn := fun _ => fun
  | [d] => { results := [.lit (.bool true)], args := [d] }
  | _ => none }
def stripRightsRow : OpenClaim := { program := "ythhoaefadfeknaagreat", sum := "908fa911699b1703aa57655382ef2c3e44eba68391f47d2a2d58d5a90015fe54", func := "treasury/treasurylaw37.StripRights", spec := "stripRights", inPlace := ["slices.overlaps[treasury/api.Holding]", "slices.overlaps[treasury/api.Strip]"], unfollowed := true, recurses := true, apart := false }
def StripRightsSaid : Prop := stripRightsRow.holds Tryz.pinned (OpenSpec.ofChange stripRightsSpec)

/-- ITS FALSE NEIGHBOUR: 'it returns false'. Refute it at one input. -/
def stripRightsWrong : ChangeSpec := { name := "stripRights", fn := fun _ => fun
  | [d] => { results := [.lit (.bool false)], args := [d] }
  | _ => none }
def StripRightsWrongFalsely : Prop := stripRightsRow.holds Tryz.pinned (OpenSpec.ofChange stripRightsWrong)

/-- 'treasurylaw37.StripBack': WHATEVER THE INPUT: true; the input reads as it did. -/
def stripBackSpec : ChangeSpec := { name := "stripBack", fn := fun _ => fun
  | [d] => { results := [.lit (.bool true)], args := [d] }
  | _ => none }
def stripBackRow : OpenClaim := { program := "ythhoaefadfeknaagreat", sum := "908fa911699b1703aa57655382ef2c3e44eba68391f47d2a2d58d5a90015fe54", func := "treasury/treasurylaw37.StripBack", spec := "stripBack", inPlace := ["slices.overlaps[treasury/api.Holding]", "slices.overlaps[treasury/api.Strip]"], unfollowed := true, recurses := true, apart := false }
def StripBackSaid : Prop := stripBackRow.holds Tryz.pinned (OpenSpec.ofChange stripBackSpec)

/-- ITS FALSE NEIGHBOUR: 'it returns false'. Refute it at one input. -/
def stripBackWrong : ChangeSpec := { name := "stripBack", fn := fun _ => fun
  | [d] => { results := [.lit (.bool false)], args := [d] }
  | _ => none }
def StripBackWrongFalsely : Prop := stripBackRow.holds Tryz.pinned (OpenSpec.ofChange stripBackWrong)

/-- 'treasurylaw37.StripCollects': WHATEVER THE INPUT: true; the input reads as it did. -/
def stripCollectsSpec : ChangeSpec := { name := "stripCollects", fn := fun _ => fun
  | [d] => { results := [.lit (.bool true)], args := [d] }
  | _ => none }
def stripCollectsRow : OpenClaim := { program := "ythhoaefadfeknaagreat", sum := "908fa911699b1703aa57655382ef2c3e44eba68391f47d2a2d58d5a90015fe54", func := "treasury/treasurylaw37.StripCollects", spec := "stripCollects", inPlace := ["slices.overlaps[treasury/api.Holding]", "slices.overlaps[treasury/api.Strip]"], unfollowed := true, recurses := true, apart := false }
def StripCollectsSaid : Prop := stripCollectsRow.holds Tryz.pinned (OpenSpec.ofChange stripCollectsSpec)

/-- ITS FALSE NEIGHBOUR: 'it returns false'. Refute it at one input. -/
def stripCollectsWrong : ChangeSpec := { name := "stripCollects", fn := fun _ => fun
  | [d] => { results := [.lit (.bool false)], args := [d] }
  | _ => none }
def StripCollectsWrongFalsely : Prop := stripCollectsRow.holds Tryz.pinned (OpenSpec.ofChange stripCollectsWrong)

/-- 'treasurylaw37.StripMoves': WHATEVER THE INPUT: true; the input reads as it did. -/
def stripMovesSpec : ChangeSpec := { name := "stripMoves", fn := fun _ => fun
  | [d] => { results := [.lit (.bool true)], args := [d] }
  | _ => none }
def stripMovesRow : OpenClaim := { program := "ythhoaefadfeknaagreat", sum := "908fa911699b1703aa57655382ef2c3e44eba68391f47d2a2d58d5a90015fe54", func := "treasury/treasurylaw37.StripMoves", spec := "stripMoves", inPlace := ["slices.overlaps[treasury/api.Holding]", "slices.overlaps[treasury/api.Strip]"], unfollowed := true, recurses := true, apart := false }
def StripMovesSaid : Prop := stripMovesRow.holds Tryz.pinned (OpenSpec.ofChange stripMovesSpec)

/-- ITS FALSE NEIGHBOUR: 'it returns false'. Refute it at one input. -/
def stripMovesWrong : ChangeSpec := { name := "stripMoves", fn := fun _ => fun
  | [d] => { results := [.lit (.bool false)], args := [d] }
  | _ => none }
def StripMovesWrongFalsely : Prop := stripMovesRow.holds Tryz.pinned (OpenSpec.ofChange stripMovesWrong)

/-- 'treasurylaw34.CouponExact': WHATEVER THE INPUT: true; the input reads as it did. -/
def couponExactSpec : ChangeSpec := { name := "couponExact", fn := fun _ => fun
  | [d1, d2, d3, d4, d5, d6, d7] => { results := [.lit (.bool true)], args := [d1, d2, d3, d4, d5, d6, d7] }
  | _ => none }
def couponExactRow : OpenClaim := { program := "ythhoaefadfeknaagreat", sum := "908fa911699b1703aa57655382ef2c3e44eba68391f47d2a2d58d5a90015fe54", func := "treasury/treasurylaw34.CouponExact", spec := "couponExact", inPlace := ["slices.overlaps[treasury/api.Holding]"], unfollowed := true, recurses := true, apart := false }
def CouponExactSaid : Prop := couponExactRow.holds Tryz.pinned (OpenSpec.ofChange couponExactSpec)

/-- ITS FALSE NEIGHBOUR: 'it returns false'. Refute it at one input. -/
def couponExactWrong : ChangeSpec := { name := "couponExact", fn := fun _ => fun
  | [d1, d2, d3, d4, d5, d6, d7] => { results := [.lit (.bool false)], args := [d1, d2, d3, d4, d5, d6, d7] }
  | _ => none }
def CouponExactWrongFalsely : Prop := couponExactRow.holds Tryz.pinned (OpenSpec.ofChange couponExactWrong)

/-- 'treasurylaw37.StripPays': WHATEVER THE INPUT: true; the input reads as it did. -/
def stripPaysSpec : ChangeSpec := { name := "stripPays", fn := fun _ => fun
  | [d] => { results := [.lit (.bool true)], args := [d] }
  | _ => none }
def stripPaysRow : OpenClaim := { program := "ythhoaefadfeknaagreat", sum := "908fa911699b1703aa57655382ef2c3e44eba68391f47d2a2d58d5a90015fe54", func := "treasury/treasurylaw37.StripPays", spec := "stripPays", inPlace := ["slices.overlaps[treasury/api.Holding]", "slices.overlaps[treasury/api.Strip]"], unfollowed := true, recurses := true, apart := false }
def StripPaysSaid : Prop := stripPaysRow.holds Tryz.pinned (OpenSpec.ofChange stripPaysSpec)

/-- ITS FALSE NEIGHBOUR: 'it returns false'. Refute it at one input. -/
def stripPaysWrong : ChangeSpec := { name := "stripPays", fn := fun _ => fun
  | [d] => { results := [.lit (.bool false)], args := [d] }
  | _ => none }
def StripPaysWrongFalsely : Prop := stripPaysRow.holds Tryz.pinned (OpenSpec.ofChange stripPaysWrong)

/-- 'treasurylaw37.StripExact': WHATEVER THE INPUT: true; the input reads as it did. -/
def stripExactSpec : ChangeSpec := { name := "stripExact", fn := fun _ => fun
  | [d1, d2, d3, d4, d5, d6, d7, d8] => { results := [.lit (.bool true)], args := [d1, d2, d3, d4, d5, d6, d7, d8] }
  | _ => none }
def stripExactRow : OpenClaim := { program := "ythhoaefadfeknaagreat", sum := "908fa911699b1703aa57655382ef2c3e44eba68391f47d2a2d58d5a90015fe54", func := "treasury/treasurylaw37.StripExact", spec := "stripExact", inPlace := ["slices.overlaps[treasury/api.Holding]", "slices.overlaps[treasury/api.Strip]"], unfollowed := true, recurses := true, apart := false }
def StripExactSaid : Prop := stripExactRow.holds Tryz.pinned (OpenSpec.ofChange stripExactSpec)

/-- ITS FALSE NEIGHBOUR: 'it returns false'. Refute it at one input. -/
def stripExactWrong : ChangeSpec := { name := "stripExact", fn := fun _ => fun
  | [d1, d2, d3, d4, d5, d6, d7, d8] => { results := [.lit (.bool false)], args := [d1, d2, d3, d4, d5, d6, d7, d8] }
  | _ => none }
def StripExactWrongFalsely : Prop := stripExactRow.holds Tryz.pinned (OpenSpec.ofChange stripExactWrong)

/- THE SECOND FORM. 'bulk': how many values and letters a reading holds, each counted each time it is reached (what is shared counts as often as it is met; a slice's spare places count too). A statement '..UptoSaid' is the law's where the arguments, and the package variables that the reading takes, are together of bulk at most 1048576: NARROWER than '..Said'. Prove '..Said' where nothing that the law and all that it calls make is longer than what came in: it says more and counts as full. Else prove '..UptoSaid'. A law counts once. -/
mutual
def uptoBulk {H : Type} : DataW H → Nat
  | .lit (.string bytes) => bytes.length + 1
  | .lit _ => 1
  | .nil => 1
  | .ptr d => uptoBulk d + 1
  | .slice elems spare => uptoBulkAll elems + uptoBulkAll spare + 1
  | .agg parts => uptoBulkAll parts + 1
  | .iface _ d => uptoBulk d + 1
  | .map entries => uptoBulkEntries entries + 1
  | .held _ => 1
def uptoBulkAll {H : Type} : List (DataW H) → Nat
  | [] => 0
  | d :: r => uptoBulk d + uptoBulkAll r
def uptoBulkEntries {H : Type} : List (Lit × DataW H) → Nat
  | [] => 0
  | x :: r => uptoBulkEntry x + uptoBulkEntries r
def uptoBulkEntry {H : Type} : Lit × DataW H → Nat
  | (.string bytes, d) => bytes.length + uptoBulk d + 1
  | (_, d) => uptoBulk d + 1
 end
def uptoSmall : (H : Type) → List (DataW H) → Bool := fun _ ds => decide (uptoBulkAll ds ≤ 1048576)
def OpenSpec.upto (s : _root_.Go.ChangeSpec) : _root_.Go.OpenSpec := { _root_.Go.OpenSpec.ofChange s with cond := some uptoSmall }

/-- 'treasurylaw36.IndexExact', WHERE WHAT IT READS IS OF BULK AT MOST 1048576: true; the input reads as it did. -/
def indexExactUptoRow : OpenClaim := { program := "ythhoaefadfeknaagreat", sum := "908fa911699b1703aa57655382ef2c3e44eba68391f47d2a2d58d5a90015fe54", func := "treasury/treasurylaw36.IndexExact", spec := "indexExact", inPlace := ["slices.overlaps[treasury/api.Holding]"], unfollowed := true, recurses := true, apart := false, narrowed := true }
def IndexExactUptoSaid : Prop := indexExactUptoRow.holds Tryz.pinned (OpenSpec.upto indexExactSpec)

/-- 'treasurylaw37.StripRights', WHERE WHAT IT READS IS OF BULK AT MOST 1048576: true; the input reads as it did. -/
def stripRightsUptoRow : OpenClaim := { program := "ythhoaefadfeknaagreat", sum := "908fa911699b1703aa57655382ef2c3e44eba68391f47d2a2d58d5a90015fe54", func := "treasury/treasurylaw37.StripRights", spec := "stripRights", inPlace := ["slices.overlaps[treasury/api.Holding]", "slices.overlaps[treasury/api.Strip]"], unfollowed := true, recurses := true, apart := false, narrowed := true }
def StripRightsUptoSaid : Prop := stripRightsUptoRow.holds Tryz.pinned (OpenSpec.upto stripRightsSpec)

/-- 'treasurylaw37.StripBack', WHERE WHAT IT READS IS OF BULK AT MOST 1048576: true; the input reads as it did. -/
def stripBackUptoRow : OpenClaim := { program := "ythhoaefadfeknaagreat", sum := "908fa911699b1703aa57655382ef2c3e44eba68391f47d2a2d58d5a90015fe54", func := "treasury/treasurylaw37.StripBack", spec := "stripBack", inPlace := ["slices.overlaps[treasury/api.Holding]", "slices.overlaps[treasury/api.Strip]"], unfollowed := true, recurses := true, apart := false, narrowed := true }
def StripBackUptoSaid : Prop := stripBackUptoRow.holds Tryz.pinned (OpenSpec.upto stripBackSpec)

/-- 'treasurylaw37.StripCollects', WHERE WHAT IT READS IS OF BULK AT MOST 1048576: true; the input reads as it did. -/
def stripCollectsUptoRow : OpenClaim := { program := "ythhoaefadfeknaagreat", sum := "908fa911699b1703aa57655382ef2c3e44eba68391f47d2a2d58d5a90015fe54", func := "treasury/treasurylaw37.StripCollects", spec := "stripCollects", inPlace := ["slices.overlaps[treasury/api.Holding]", "slices.overlaps[treasury/api.Strip]"], unfollowed := true, recurses := true, apart := false, narrowed := true }
def StripCollectsUptoSaid : Prop := stripCollectsUptoRow.holds Tryz.pinned (OpenSpec.upto stripCollectsSpec)

/-- 'treasurylaw37.StripMoves', WHERE WHAT IT READS IS OF BULK AT MOST 1048576: true; the input reads as it did. -/
def stripMovesUptoRow : OpenClaim := { program := "ythhoaefadfeknaagreat", sum := "908fa911699b1703aa57655382ef2c3e44eba68391f47d2a2d58d5a90015fe54", func := "treasury/treasurylaw37.StripMoves", spec := "stripMoves", inPlace := ["slices.overlaps[treasury/api.Holding]", "slices.overlaps[treasury/api.Strip]"], unfollowed := true, recurses := true, apart := false, narrowed := true }
def StripMovesUptoSaid : Prop := stripMovesUptoRow.holds Tryz.pinned (OpenSpec.upto stripMovesSpec)

/-- 'treasurylaw34.CouponExact', WHERE WHAT IT READS IS OF BULK AT MOST 1048576: true; the input reads as it did. -/
def couponExactUptoRow : OpenClaim := { program := "ythhoaefadfeknaagreat", sum := "908fa911699b1703aa57655382ef2c3e44eba68391f47d2a2d58d5a90015fe54", func := "treasury/treasurylaw34.CouponExact", spec := "couponExact", inPlace := ["slices.overlaps[treasury/api.Holding]"], unfollowed := true, recurses := true, apart := false, narrowed := true }
def CouponExactUptoSaid : Prop := couponExactUptoRow.holds Tryz.pinned (OpenSpec.upto couponExactSpec)

/-- 'treasurylaw37.StripPays', WHERE WHAT IT READS IS OF BULK AT MOST 1048576: true; the input reads as it did. -/
def stripPaysUptoRow : OpenClaim := { program := "ythhoaefadfeknaagreat", sum := "908fa911699b1703aa57655382ef2c3e44eba68391f47d2a2d58d5a90015fe54", func := "treasury/treasurylaw37.StripPays", spec := "stripPays", inPlace := ["slices.overlaps[treasury/api.Holding]", "slices.overlaps[treasury/api.Strip]"], unfollowed := true, recurses := true, apart := false, narrowed := true }
def StripPaysUptoSaid : Prop := stripPaysUptoRow.holds Tryz.pinned (OpenSpec.upto stripPaysSpec)

/-- 'treasurylaw37.StripExact', WHERE WHAT IT READS IS OF BULK AT MOST 1048576: true; the input reads as it did. -/
def stripExactUptoRow : OpenClaim := { program := "ythhoaefadfeknaagreat", sum := "908fa911699b1703aa57655382ef2c3e44eba68391f47d2a2d58d5a90015fe54", func := "treasury/treasurylaw37.StripExact", spec := "stripExact", inPlace := ["slices.overlaps[treasury/api.Holding]", "slices.overlaps[treasury/api.Strip]"], unfollowed := true, recurses := true, apart := false, narrowed := true }
def StripExactUptoSaid : Prop := stripExactUptoRow.holds Tryz.pinned (OpenSpec.upto stripExactSpec)

end Rows
end Go.Proofs.YthhoaefadfeknaaGreat
