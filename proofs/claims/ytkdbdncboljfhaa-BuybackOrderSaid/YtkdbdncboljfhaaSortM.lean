/- Stable sorting in place: exchanges of places far from each other. -/
import Derived.Test.YtkdbdncboljfhaaSortL
namespace Go.Proofs.Ytkdbdncboljfhaa
open Go.RowKit
set_option linter.unusedVariables false
theorem zget_at {α : Type} (P R : List α) (x : α) {j : Nat} (h : P.length = j) : (P ++ x :: R)[j]? = some x := by subst h; simp
theorem zset_two {α : Type} (P M R : List α) (x y a b : α) {i j : Nat} (hi : P.length = i) (hj : i + 1 + M.length = j) : ((P ++ x :: (M ++ y :: R)).set i a).set j b = P ++ a :: (M ++ b :: R) := by
  subst hi
  rw [List.set_append_right _ _ (by omega), Nat.sub_self, List.set_cons_zero, List.set_append_right _ _ (by omega), show j - P.length = (j - P.length - 1) + 1 by omega, List.set_cons_succ, List.set_append_right _ _ (by omega), show j - P.length - 1 - M.length = 0 by omega, List.set_cons_zero]
theorem RowZ.two {α : Type} {enc : α → List Value} {z : Nat} {T : TypeId} {base g n cap : Nat} {w : World} (hz : ∀ a, (enc a).length = z) {P M R : List α} {x y : α} (h : RowZ T z enc base g n cap (P ++ x :: (M ++ y :: R)) w) (q : Nat) {i j : Nat} (hi : P.length = i) (hj : i + 1 + M.length = j) :
    RowZ T z enc base g n cap (P ++ y :: (M ++ x :: R)) ((setAllW (setAllW w g (i * z) (enc y)) g (j * z) (enc x)).drewN q) ∧ w.grownBy ((setAllW (setAllW w g (i * z) (enc y)) g (j * z) (enc x)).drewN q) (some g) := by
  have := h.swap hz (i := i) (j := j) (by simp; omega) (by simp; omega) y x q
  rwa [zset_two P M R x y y x hi hj] at this
end Go.Proofs.Ytkdbdncboljfhaa
