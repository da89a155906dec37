/- Stable sorting: where an element falls in an ascending list. Stable sorting: a merge cut in two. Stable sorting: blocks that are sorted. -/
import Derived.Test.YtenbbmmbpjjjpaaZSortR
namespace Go.Proofs.Ytenbbmmbpjjjpaa
open Go.RowKit
set_option linter.unusedVariables false
section
variable {α : Type} {lt : α → α → Bool}
theorem asc_getZ (H : Wk lt) {B : List α} (hB : Asc lt B) {k l : Nat} {y z : α} (hkl : k ≤ l) (hy : B[k]? = some y) (hz : B[l]? = some z) : lt z y = false := by
  rcases Nat.lt_or_ge k l with h | h
  · obtain ⟨hk, rfl⟩ := List.getElem?_eq_some_iff.1 hy
    obtain ⟨hl, rfl⟩ := List.getElem?_eq_some_iff.1 hz
    exact (List.pairwise_iff_getElem.1 hB) k l hk hl h
  · have : k = l := by omega
    subst this
    rw [hy] at hz
    cases hz
    exact H.irr _
theorem mem_takeqZ {B : List α} {i : Nat} {y : α} (h : y ∈ B.take i) : ∃ k, k < i ∧ B[k]? = some y := by
  obtain ⟨k, hk⟩ := List.mem_iff_getElem?.1 h
  have hl := (List.getElem?_eq_some_iff.1 hk).1
  rw [List.length_take] at hl
  rw [List.getElem?_take_of_lt (by omega)] at hk
  exact ⟨k, by omega, hk⟩
theorem mem_dropqZ {B : List α} {i : Nat} {y : α} (h : y ∈ B.drop i) : ∃ k, i ≤ k ∧ B[k]? = some y := by
  obtain ⟨k, hk⟩ := List.mem_iff_getElem?.1 h
  rw [List.getElem?_drop] at hk
  exact ⟨i + k, by omega, hk⟩
theorem asc_loZ (H : Wk lt) {B : List α} (hB : Asc lt B) {x : α} {i : Nat} (h : i = 0 ∨ ∃ y, B[i - 1]? = some y ∧ lt y x = true) : ∀ y ∈ B.take i, lt y x = true := by
  intro y hy
  obtain ⟨k, hk, hk2⟩ := mem_takeqZ hy
  rcases h with h | ⟨z, hz, hl⟩
  · omega
  · exact H.le_lt (asc_getZ H hB (show k ≤ i - 1 by omega) hk2 hz) hl
theorem asc_hiZ (H : Wk lt) {B : List α} (hB : Asc lt B) {x : α} {i : Nat} (h : B.length ≤ i ∨ ∃ y, B[i]? = some y ∧ lt y x = false) : ∀ y ∈ B.drop i, lt y x = false := by
  intro y hy
  obtain ⟨k, hk, hk2⟩ := mem_dropqZ hy
  rcases h with h | ⟨z, hz, hl⟩
  · have := (List.getElem?_eq_some_iff.1 hk2).1; omega
  · exact H.tr _ _ _ (asc_getZ H hB hk hz hk2) hl
theorem asc_loqZ (H : Wk lt) {B : List α} (hB : Asc lt B) {x : α} {i : Nat} (h : i = 0 ∨ ∃ y, B[i - 1]? = some y ∧ lt x y = false) : ∀ y ∈ B.take i, lt x y = false := by
  intro y hy
  obtain ⟨k, hk, hk2⟩ := mem_takeqZ hy
  rcases h with h | ⟨z, hz, hl⟩
  · omega
  · exact H.tr _ _ _ hl (asc_getZ H hB (show k ≤ i - 1 by omega) hk2 hz)
theorem asc_hiqZ (H : Wk lt) {B : List α} (hB : Asc lt B) {x : α} {i : Nat} (h : B.length ≤ i ∨ ∃ y, B[i]? = some y ∧ lt x y = true) : ∀ y ∈ B.drop i, lt x y = true := by
  intro y hy
  obtain ⟨k, hk, hk2⟩ := mem_dropqZ hy
  rcases h with h | ⟨z, hz, hl⟩
  · have := (List.getElem?_eq_some_iff.1 hk2).1; omega
  · exact H.lt_le hl (asc_getZ H hB hk hz hk2)
theorem mrg_put_backZ {S1 S2 : List α} {x : α} (h1 : ∀ y ∈ S1, lt x y = false) (h2 : ∀ y ∈ S2, lt x y = true) : mrg lt (S1 ++ S2) [x] = S1 ++ x :: S2 := by
  have e1 := mrg_append (lt := lt) S1 [] (A2 := S2) (B2 := [x]) (fun a ha b hb => by rw [List.mem_singleton.1 hb]; exact h1 a ha) (by simp)
  have e2 := mrg_append (lt := lt) [] [x] (A2 := S2) (B2 := ([] : List α)) (by simp) (fun a ha b hb => by rw [List.mem_singleton.1 hb]; exact h2 a ha)
  rw [List.nil_append, mrg_nil_r] at e1
  rw [List.nil_append, List.append_nil, mrg_nil_l, mrg_nil_r] at e2
  rw [e1, e2]; rfl
end
theorem halfZ (i j : Nat) (h : i < j) : ∃ k : Nat, ((i : Int) + (j : Int)) / 2 = (k : Int) ∧ i ≤ k ∧ k < j := ⟨(i + j) / 2, by omega, by omega, by omega⟩

end Go.Proofs.Ytenbbmmbpjjjpaa
namespace Go.Proofs.Ytenbbmmbpjjjpaa
open Go.RowKit
set_option linter.unusedVariables false
theorem mrg_cutZ {α : Type} {lt : α → α → Bool} (H : Wk lt) {A B : List α} (hA : Asc lt A) (hB : Asc lt B) {i j : Nat}
    (h1 : i = 0 ∨ B.length ≤ j ∨ ∃ x y, A[i - 1]? = some x ∧ B[j]? = some y ∧ lt y x = false) (h2 : A.length ≤ i ∨ j = 0 ∨ ∃ x y, A[i]? = some x ∧ B[j - 1]? = some y ∧ lt y x = true) :
    mrg lt A B = mrg lt (A.take i) (B.take j) ++ mrg lt (A.drop i) (B.drop j) := by
  have := mrg_append (lt := lt) (A.take i) (B.take j) (A2 := A.drop i) (B2 := B.drop j) (fun x hx y hy => by
    obtain ⟨k, hk, hk2⟩ := mem_takeqZ hx
    obtain ⟨l, hl, hl2⟩ := mem_dropqZ hy
    rcases h1 with h1 | h1 | ⟨u, v, hu, hv, huv⟩
    · omega
    · have := (List.getElem?_eq_some_iff.1 hl2).1; omega
    · exact H.tr _ _ _ (H.tr _ _ _ (asc_getZ H hB hl hv hl2) huv) (asc_getZ H hA (show k ≤ i - 1 by omega) hk2 hu)) (fun x hx y hy => by
    obtain ⟨k, hk, hk2⟩ := mem_dropqZ hx
    obtain ⟨l, hl, hl2⟩ := mem_takeqZ hy
    rcases h2 with h2 | h2 | ⟨u, v, hu, hv, huv⟩
    · have := (List.getElem?_eq_some_iff.1 hk2).1; omega
    · omega
    · exact H.lt_le (H.le_lt (asc_getZ H hB (show l ≤ j - 1 by omega) hl2 hv) huv) (asc_getZ H hA hk hu hk2))
  rw [List.take_append_drop, List.take_append_drop] at this
  exact this
theorem mrg_disjZ {α : Type} {lt : α → α → Bool} {A B : List α} (h : A = [] ∨ B = []) : mrg lt A B = A ++ B := by
  rcases h with rfl | rfl
  · rw [mrg_nil_l]; rfl
  · rw [mrg_nil_r]; simp
end Go.Proofs.Ytenbbmmbpjjjpaa
namespace Go.Proofs.Ytenbbmmbpjjjpaa
open Go.RowKit
set_option linter.unusedVariables false
section
variable {α : Type} {lt : α → α → Bool}
/-- L is D with its blocks of k elements sorted -/
inductive BlZ (lt : α → α → Bool) (k : Nat) : List α → List α → Prop
  | nil : BlZ lt k [] []
  | cons {d D L : List α} : d.length = k → BlZ lt k D L → BlZ lt k (d ++ D) (srt lt d ++ L)
theorem BlZ.len {k : Nat} {D L : List α} (h : BlZ lt k D L) : L.length = D.length := by
  induction h with
  | nil => rfl
  | cons hd _ ih => simp [srt_length, ih]
theorem BlZ.snoc {k : Nat} {D L d : List α} (h : BlZ lt k D L) (hd : d.length = k) : BlZ lt k (D ++ d) (L ++ srt lt d) := by
  induction h with
  | nil => simpa using BlZ.cons hd BlZ.nil
  | cons hd' _ ih => rw [List.append_assoc, List.append_assoc]; exact BlZ.cons hd' ih
theorem BlZ.split {k : Nat} {D L : List α} (h : BlZ lt k D L) (hk : 0 < k) : (D = [] ∧ L = []) ∨ ∃ d D' L', D = d ++ D' ∧ L = srt lt d ++ L' ∧ d.length = k ∧ BlZ lt k D' L' := by
  cases h with
  | nil => exact .inl ⟨rfl, rfl⟩
  | cons hd h => exact .inr ⟨_, _, _, rfl, rfl, hd, h⟩
theorem BlZ.two {k : Nat} {D L : List α} (h : BlZ lt k D L) (hk : 0 < k) {r : Nat} (hr : r < k) (h2 : 2 * k ≤ D.length + r) : ∃ d1 d2 D' L', D = d1 ++ d2 ++ D' ∧ L = srt lt d1 ++ srt lt d2 ++ L' ∧ d1.length = k ∧ d2.length = k ∧ BlZ lt k D' L' := by
  rcases h.split hk with ⟨rfl, rfl⟩ | ⟨d1, D1, L1, rfl, rfl, hd1, h1⟩
  · simp at h2; omega
  · rcases h1.split hk with ⟨rfl, rfl⟩ | ⟨d2, D2, L2, rfl, rfl, hd2, h3⟩
    · simp at h2; omega
    · exact ⟨d1, d2, D2, L2, by simp, by simp, hd1, hd2, h3⟩
theorem BlZ.one {k : Nat} {D L : List α} (h : BlZ lt k D L) (hk : 0 < k) {r : Nat} (h2 : D.length + r < 2 * k) : (D = [] ∧ L = []) ∨ (D.length = k ∧ L = srt lt D) := by
  rcases h.split hk with ⟨rfl, rfl⟩ | ⟨d1, D1, L1, rfl, rfl, hd1, h1⟩
  · exact .inl ⟨rfl, rfl⟩
  · rcases h1.split hk with ⟨rfl, rfl⟩ | ⟨d2, D2, L2, rfl, rfl, hd2, h3⟩
    · exact .inr (by simp [hd1])
    · simp at h2; omega
theorem BlZ.all (H : Wk lt) {k : Nat} {D L R : List α} (h : BlZ lt k D L) (hk : 0 < k) (h2 : D.length + R.length ≤ k) : L ++ srt lt R = srt lt (D ++ R) := by
  rcases h.split hk with ⟨rfl, rfl⟩ | ⟨d1, D1, L1, rfl, rfl, hd1, h1⟩
  · rfl
  · have hR : R = [] := List.eq_nil_of_length_eq_zero (by simp at h2; omega)
    rcases h1.split hk with ⟨rfl, rfl⟩ | ⟨d2, D2, L2, rfl, rfl, hd2, h3⟩
    · subst hR; simp [srt]
    · simp at h2; omega
end
end Go.Proofs.Ytenbbmmbpjjjpaa
