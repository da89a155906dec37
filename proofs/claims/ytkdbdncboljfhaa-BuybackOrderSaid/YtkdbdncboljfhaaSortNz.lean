/- Stable sorting: where an element falls in an ascending list. -/
import Derived.Test.YtkdbdncboljfhaaSortP
namespace Go.Proofs.Ytkdbdncboljfhaa
open Go.RowKit
set_option linter.unusedVariables false
section
variable {α : Type} {lt : α → α → Bool}
theorem asc_getZ (H : Wk lt) {B : List α} (hB : Asc lt B) {k l : Nat} {y z : α} (hkl : k ≤ l) (hy : B[k]? = some y) (hz : B[l]? = some z) : lt z y = false := by
  rcases Nat.lt_or_ge k l with h | h
  · obtain ⟨hk, rfl⟩ := List.getElem?_eq_some_iff.1 hy
    obtain ⟨hl, rfl⟩ := List.getElem?_eq_some_iff.1 hz
    exact (List.pairwise_iff_getElem.1 hB) k l hk hl h
  · have : k = l := by omega
    subst this
    rw [hy] at hz
    cases hz
    exact H.irr _
theorem mem_takeqZ {B : List α} {i : Nat} {y : α} (h : y ∈ B.take i) : ∃ k, k < i ∧ B[k]? = some y := by
  obtain ⟨k, hk⟩ := List.mem_iff_getElem?.1 h
  have hl := (List.getElem?_eq_some_iff.1 hk).1
  rw [List.length_take] at hl
  rw [List.getElem?_take_of_lt (by omega)] at hk
  exact ⟨k, by omega, hk⟩
theorem mem_dropqZ {B : List α} {i : Nat} {y : α} (h : y ∈ B.drop i) : ∃ k, i ≤ k ∧ B[k]? = some y := by
  obtain ⟨k, hk⟩ := List.mem_iff_getElem?.1 h
  rw [List.getElem?_drop] at hk
  exact ⟨i + k, by omega, hk⟩
theorem asc_loZ (H : Wk lt) {B : List α} (hB : Asc lt B) {x : α} {i : Nat} (h : i = 0 ∨ ∃ y, B[i - 1]? = some y ∧ lt y x = true) : ∀ y ∈ B.take i, lt y x = true := by
  intro y hy
  obtain ⟨k, hk, hk2⟩ := mem_takeqZ hy
  rcases h with h | ⟨z, hz, hl⟩
  · omega
  · exact H.le_lt (asc_getZ H hB (show k ≤ i - 1 by omega) hk2 hz) hl
theorem asc_hiZ (H : Wk lt) {B : List α} (hB : Asc lt B) {x : α} {i : Nat} (h : B.length ≤ i ∨ ∃ y, B[i]? = some y ∧ lt y x = false) : ∀ y ∈ B.drop i, lt y x = false := by
  intro y hy
  obtain ⟨k, hk, hk2⟩ := mem_dropqZ hy
  rcases h with h | ⟨z, hz, hl⟩
  · have := (List.getElem?_eq_some_iff.1 hk2).1; omega
  · exact H.tr _ _ _ (asc_getZ H hB hk hz hk2) hl
theorem asc_loqZ (H : Wk lt) {B : List α} (hB : Asc lt B) {x : α} {i : Nat} (h : i = 0 ∨ ∃ y, B[i - 1]? = some y ∧ lt x y = false) : ∀ y ∈ B.take i, lt x y = false := by
  intro y hy
  obtain ⟨k, hk, hk2⟩ := mem_takeqZ hy
  rcases h with h | ⟨z, hz, hl⟩
  · omega
  · exact H.tr _ _ _ hl (asc_getZ H hB (show k ≤ i - 1 by omega) hk2 hz)
theorem asc_hiqZ (H : Wk lt) {B : List α} (hB : Asc lt B) {x : α} {i : Nat} (h : B.length ≤ i ∨ ∃ y, B[i]? = some y ∧ lt x y = true) : ∀ y ∈ B.drop i, lt x y = true := by
  intro y hy
  obtain ⟨k, hk, hk2⟩ := mem_dropqZ hy
  rcases h with h | ⟨z, hz, hl⟩
  · have := (List.getElem?_eq_some_iff.1 hk2).1; omega
  · exact H.lt_le hl (asc_getZ H hB hk hz hk2)
theorem mrg_put_backZ {S1 S2 : List α} {x : α} (h1 : ∀ y ∈ S1, lt x y = false) (h2 : ∀ y ∈ S2, lt x y = true) : mrg lt (S1 ++ S2) [x] = S1 ++ x :: S2 := by
  have e1 := mrg_append (lt := lt) S1 [] (A2 := S2) (B2 := [x]) (fun a ha b hb => by rw [List.mem_singleton.1 hb]; exact h1 a ha) (by simp)
  have e2 := mrg_append (lt := lt) [] [x] (A2 := S2) (B2 := ([] : List α)) (by simp) (fun a ha b hb => by rw [List.mem_singleton.1 hb]; exact h2 a ha)
  rw [List.nil_append, mrg_nil_r] at e1
  rw [List.nil_append, List.append_nil, mrg_nil_l, mrg_nil_r] at e2
  rw [e1, e2]; rfl
end
theorem halfZ (i j : Nat) (h : i < j) : ∃ k : Nat, ((i : Int) + (j : Int)) / 2 = (k : Int) ∧ i ≤ k ∧ k < j := ⟨(i + j) / 2, by omega, by omega, by omega⟩

end Go.Proofs.Ytkdbdncboljfhaa
