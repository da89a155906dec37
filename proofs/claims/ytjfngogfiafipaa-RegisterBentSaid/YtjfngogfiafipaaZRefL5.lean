/- the reference's register: Add. Printed by wip/gen/refl.py. -/
import Derived.Test.YtjfngogfiafipaaZRefL1
import Derived.Test.YtjfngogfiafipaaZRefL2
import Derived.Test.YtjfngogfiafipaaZRefL3
import Derived.Test.YtjfngogfiafipaaZRefL4
namespace Go.Proofs.Ytjfngogfiafipaa
open Go.RowKit
set_option linter.unusedVariables false
set_option linter.unusedSimpArgs false
theorem fadd_any (P : Nat → Prop) (vs vh vm : Value) (R : Reg) (id un is ma ra ev : Int) (ix : Bool) (w : World) (hr : RgIn P w vs vh vm R) (hS : R.secs.length ≤ 1000000) (hH : R.hs.length ≤ 1000000) (hM : R.ms.length ≤ 1000000) (hP : ∀ b, w.heap.size ≤ b → P b) (hnz : vs = .slice none 0 0 ∨ 0 < R.secs.length) :
    Calls Try.prog 33 #[.agg #[vs, vh, vm], .agg #[.int .i64 id, .int .i64 un, .int .i64 is, .int .i64 ma, .int .i64 ra, .int .i64 ev, .bool ix]] w (GaveR P (raR R ⟨id, un, is, ma, ra, ev, ix⟩) (raE R ⟨id, un, is, ma, ra, ev, ix⟩) w) := by
  by_cases hx : chkE R = 0
  · cases hf : findS R.secs id with
    | some S => exact fadd_there P vs vh vm R id un is ma ra ev ix w hr hS hH hM hP hx S hf
    | none =>
      cases hso : secB id un is ma ra ev
      · exact fadd_invalid P vs vh vm R id un is ma ra ev ix w hr hS hH hM hP hx hf hso
      · by_cases hl : R.secs.length = 20
        · exact fadd_full P vs vh vm R id un is ma ra ev ix w hr hS hH hM hP hx hf hso hl
        · rcases hnz with hnz | hnz
          · exact fadd_go_nil P vs vh vm R id un is ma ra ev ix w hr hS hH hM hP hx hf hso hl hnz
          · by_cases hcq : ∃ a n, vs = .slice a n (posS R.secs id)
            · exact fadd_go_full P vs vh vm R id un is ma ra ev ix w hr hS hH hM hP hx hf hso hl hnz hcq
            · exact fadd_go_part P vs vh vm R id un is ma ra ev ix w hr hS hH hM hP hx hf hso hl hnz hcq
  · exact fadd_bad P vs vh vm R id un is ma ra ev ix w hr hS hH hM hP hx
end Go.Proofs.Ytjfngogfiafipaa
