/- Stable sorting: a merge cut in two. -/
import Derived.Test.YtkdbdncboljfhaaSortNz
namespace Go.Proofs.Ytkdbdncboljfhaa
open Go.RowKit
set_option linter.unusedVariables false
theorem mrg_cutZ {α : Type} {lt : α → α → Bool} (H : Wk lt) {A B : List α} (hA : Asc lt A) (hB : Asc lt B) {i j : Nat}
    (h1 : i = 0 ∨ B.length ≤ j ∨ ∃ x y, A[i - 1]? = some x ∧ B[j]? = some y ∧ lt y x = false) (h2 : A.length ≤ i ∨ j = 0 ∨ ∃ x y, A[i]? = some x ∧ B[j - 1]? = some y ∧ lt y x = true) :
    mrg lt A B = mrg lt (A.take i) (B.take j) ++ mrg lt (A.drop i) (B.drop j) := by
  have := mrg_append (lt := lt) (A.take i) (B.take j) (A2 := A.drop i) (B2 := B.drop j) (fun x hx y hy => by
    obtain ⟨k, hk, hk2⟩ := mem_takeqZ hx
    obtain ⟨l, hl, hl2⟩ := mem_dropqZ hy
    rcases h1 with h1 | h1 | ⟨u, v, hu, hv, huv⟩
    · omega
    · have := (List.getElem?_eq_some_iff.1 hl2).1; omega
    · exact H.tr _ _ _ (H.tr _ _ _ (asc_getZ H hB hl hv hl2) huv) (asc_getZ H hA (show k ≤ i - 1 by omega) hk2 hu)) (fun x hx y hy => by
    obtain ⟨k, hk, hk2⟩ := mem_dropqZ hx
    obtain ⟨l, hl, hl2⟩ := mem_takeqZ hy
    rcases h2 with h2 | h2 | ⟨u, v, hu, hv, huv⟩
    · have := (List.getElem?_eq_some_iff.1 hk2).1; omega
    · omega
    · exact H.lt_le (H.le_lt (asc_getZ H hB (show l ≤ j - 1 by omega) hl2 hv) huv) (asc_getZ H hA hk hu hk2))
  rw [List.take_append_drop, List.take_append_drop] at this
  exact this
theorem mrg_disjZ {α : Type} {lt : α → α → Bool} {A B : List α} (h : A = [] ∨ B = []) : mrg lt A B = A ++ B := by
  rcases h with rfl | rfl
  · rw [mrg_nil_l]; rfl
  · rw [mrg_nil_r]; simp
end Go.Proofs.Ytkdbdncboljfhaa
