/- Stable sorting: blocks that are sorted. -/
import Derived.Test.YtkdbdncboljfhaaSortP
namespace Go.Proofs.Ytkdbdncboljfhaa
open Go.RowKit
set_option linter.unusedVariables false
section
variable {α : Type} {lt : α → α → Bool}
/-- L is D with its blocks of k elements sorted -/
inductive BlZ (lt : α → α → Bool) (k : Nat) : List α → List α → Prop
  | nil : BlZ lt k [] []
  | cons {d D L : List α} : d.length = k → BlZ lt k D L → BlZ lt k (d ++ D) (srt lt d ++ L)
theorem BlZ.len {k : Nat} {D L : List α} (h : BlZ lt k D L) : L.length = D.length := by
  induction h with
  | nil => rfl
  | cons hd _ ih => simp [srt_length, ih]
theorem BlZ.snoc {k : Nat} {D L d : List α} (h : BlZ lt k D L) (hd : d.length = k) : BlZ lt k (D ++ d) (L ++ srt lt d) := by
  induction h with
  | nil => simpa using BlZ.cons hd BlZ.nil
  | cons hd' _ ih => rw [List.append_assoc, List.append_assoc]; exact BlZ.cons hd' ih
theorem BlZ.split {k : Nat} {D L : List α} (h : BlZ lt k D L) (hk : 0 < k) : (D = [] ∧ L = []) ∨ ∃ d D' L', D = d ++ D' ∧ L = srt lt d ++ L' ∧ d.length = k ∧ BlZ lt k D' L' := by
  cases h with
  | nil => exact .inl ⟨rfl, rfl⟩
  | cons hd h => exact .inr ⟨_, _, _, rfl, rfl, hd, h⟩
theorem BlZ.two {k : Nat} {D L : List α} (h : BlZ lt k D L) (hk : 0 < k) {r : Nat} (hr : r < k) (h2 : 2 * k ≤ D.length + r) : ∃ d1 d2 D' L', D = d1 ++ d2 ++ D' ∧ L = srt lt d1 ++ srt lt d2 ++ L' ∧ d1.length = k ∧ d2.length = k ∧ BlZ lt k D' L' := by
  rcases h.split hk with ⟨rfl, rfl⟩ | ⟨d1, D1, L1, rfl, rfl, hd1, h1⟩
  · simp at h2; omega
  · rcases h1.split hk with ⟨rfl, rfl⟩ | ⟨d2, D2, L2, rfl, rfl, hd2, h3⟩
    · simp at h2; omega
    · exact ⟨d1, d2, D2, L2, by simp, by simp, hd1, hd2, h3⟩
theorem BlZ.one {k : Nat} {D L : List α} (h : BlZ lt k D L) (hk : 0 < k) {r : Nat} (h2 : D.length + r < 2 * k) : (D = [] ∧ L = []) ∨ (D.length = k ∧ L = srt lt D) := by
  rcases h.split hk with ⟨rfl, rfl⟩ | ⟨d1, D1, L1, rfl, rfl, hd1, h1⟩
  · exact .inl ⟨rfl, rfl⟩
  · rcases h1.split hk with ⟨rfl, rfl⟩ | ⟨d2, D2, L2, rfl, rfl, hd2, h3⟩
    · exact .inr (by simp [hd1])
    · simp at h2; omega
theorem BlZ.all (H : Wk lt) {k : Nat} {D L R : List α} (h : BlZ lt k D L) (hk : 0 < k) (h2 : D.length + R.length ≤ k) : L ++ srt lt R = srt lt (D ++ R) := by
  rcases h.split hk with ⟨rfl, rfl⟩ | ⟨d1, D1, L1, rfl, rfl, hd1, h1⟩
  · rfl
  · have hR : R = [] := List.eq_nil_of_length_eq_zero (by simp at h2; omega)
    rcases h1.split hk with ⟨rfl, rfl⟩ | ⟨d2, D2, L2, rfl, rfl, hd2, h3⟩
    · subst hR; simp [srt]
    · simp at h2; omega
end
end Go.Proofs.Ytkdbdncboljfhaa
