/- The first place with a test. -/
import Derived.Test.YtkkgipcidbgbhaaNum
namespace Go.Proofs.Ytkkgipcidbgbhaa
open Go.RowKit
set_option linter.unusedVariables false

/-- the first place below n with p, or -1 -/
def fstI (p : Nat → Bool) (n : Nat) : Int := if ∃ i, i < n ∧ p i = true then (((List.range n).find? p).getD 0 : Nat) else -1
theorem fstI_none {p : Nat → Bool} {n : Nat} (h : ∀ j, j < n → p j = false) : fstI p n = -1 := by
  unfold fstI
  rw [if_neg]
  rintro ⟨i, hi, hp⟩
  rw [h i hi] at hp
  cases hp
theorem fstI_some {p : Nat → Bool} {n k : Nat} (hk : k < n) (hp : p k = true) (h : ∀ j, j < k → p j = false) : fstI p n = k := by
  unfold fstI
  rw [if_pos ⟨k, hk, hp⟩]
  have : (List.range n).find? p = some k := by
    rw [List.find?_range_eq_some]
    exact ⟨hp, List.mem_range.2 hk, fun j hj => by rw [h j hj]; rfl⟩
  rw [this]
  rfl
/-- some place below n has p -/
def anyB (p : Nat → Bool) (n : Nat) : Bool := decide (∃ i, i < n ∧ p i = true)
theorem fstI_any (p : Nat → Bool) (n : Nat) : decide (0 ≤ fstI p n) = anyB p n := by
  unfold fstI anyB
  by_cases h : ∃ i, i < n ∧ p i = true
  · rw [if_pos h]; simp [h]
  · rw [if_neg h]; simp [h]
theorem anyB_false {p : Nat → Bool} {n : Nat} (h : ∀ j, j < n → p j = false) : anyB p n = false := by
  unfold anyB
  simp only [decide_eq_false_iff_not]
  rintro ⟨i, hi, hp⟩
  rw [h i hi] at hp
  cases hp

end Go.Proofs.Ytkkgipcidbgbhaa
