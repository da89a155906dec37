/- Contracts of money's weight, checked, Share, Percent. -/
import Derived.Test.YtkdbdncboljfhaaNum
import Derived.Lib.Hide
namespace Go.Proofs.Ytkdbdncboljfhaa
open Go.RowKit
set_option linter.unusedVariables false

theorem ret_ab {a b a' b' : Int} (h : a = a' ∧ b = b') : Ending.returned (.tuple #[.int .i64 a, .int .i64 b]) = .returned (.tuple #[.int .i64 a', .int .i64 b']) := by
  obtain ⟨rfl, rfl⟩ := h; rfl
theorem weight_any (n : Int) (w : World) : Calls Try.prog 47 #[.int .i64 n] w fun e w' => e = .returned (.bool (inB n 0 1000000)) ∧ w = w' := by
  go_enter Try.func47, Try.ntmps47
  go_wp2
  all_goals (go_ret; exact ⟨ret_bool (by simp only [inB]; first | (rw [Bool.eq_iff_iff]; simp; omega) | (simp; omega)), rfl⟩)
/-- a number if it is an amount -/
def ckV (n : Int) : Int := if inB n 0 1000000000000 then n else 0
def ckE (n : Int) : Int := if inB n 0 1000000000000 then 0 else 2
/-- a share -/
def shOk (a n d : Int) : Bool := inB a 0 1000000000000 && inB n 0 1000000 && inB d 0 1000000 && d != 0
def shV (a n d : Int) : Int := if shOk a n d then ckV ((2 * a * n + d) / (2 * d)) else 0
def shE (a n d : Int) : Int := if shOk a n d then ckE ((2 * a * n + d) / (2 * d)) else 2
theorem shOk_iff {a n d : Int} : shOk a n d = true ↔ (0 ≤ a ∧ a ≤ 1000000000000) ∧ (0 ≤ n ∧ n ≤ 1000000) ∧ (1 ≤ d ∧ d ≤ 1000000) := by
  simp only [shOk, Bool.and_eq_true, inB_iff, bne_iff_ne, ne_eq]
  omega
end Go.Proofs.Ytkdbdncboljfhaa
