/- RiskRates in plain Lean. -/
import Derived.Test.YtmhglabcnimegaaZRgK
namespace Go.Proofs.Ytmhglabcnimegaa
open Go.RowKit
set_option linter.unusedVariables false
set_option linter.unusedSimpArgs false
theorem shR_ge {b x : Int} (hb : 0 ≤ b) (hx : 0 ≤ x ∧ x ≤ 20000) : x ≤ shR b x := by unfold shR byC; rw [if_pos (inB_iff.2 hx)]; omega
theorem shR_le {b x : Int} (hb : b ≤ 0) (hx : 0 ≤ x ∧ x ≤ 20000) : shR b x ≤ x := by unfold shR byC; rw [if_pos (inB_iff.2 hx)]; omega
theorem oldR_sh {L : List Int} (hp : pathB L = true) (b : Int) (k : Nat) : (oldR L k = 0 ∧ oldR (shL b L) k = 0) ∨ ∃ x, (0 ≤ x ∧ x ≤ 20000) ∧ oldR L k = x ∧ oldR (shL b L) k = shR b x := by
  unfold oldR
  split
  · exact .inl ⟨rfl, rfl⟩
  · unfold shL
    rw [List.getElem?_map]
    cases hx : L[k - 1]? with
    | none => exact .inl ⟨rfl, rfl⟩
    | some x => exact .inr ⟨x, pathB_at hp hx, rfl, rfl⟩
theorem oldR_ge {L : List Int} (hp : pathB L = true) {b : Int} (hb : 0 ≤ b) (k : Nat) : oldR L k ≤ oldR (shL b L) k := by
  rcases oldR_sh hp b k with ⟨h1, h2⟩ | ⟨x, hx, h1, h2⟩
  · omega
  · rw [h1, h2]; exact shR_ge hb hx
theorem oldR_le {L : List Int} (hp : pathB L = true) {b : Int} (hb : b ≤ 0) (k : Nat) : oldR (shL b L) k ≤ oldR L k := by
  rcases oldR_sh hp b k with ⟨h1, h2⟩ | ⟨x, hx, h1, h2⟩
  · omega
  · rw [h1, h2]; exact shR_le hb hx
theorem csD_ge {R : Reg} (h : RgOk R) {y0 : Int} {L : List Int} (hp : pathB L = true) {b : Int} (hb : 0 ≤ b) (k : Nat) : 0 ≤ csD R y0 L b k := by
  have h1 := Int.mul_le_mul_of_nonneg_left (oldR_ge hp hb k) (rais_bd h y0 k).1
  unfold csD prjI
  omega
theorem csD_le {R : Reg} (h : RgOk R) {y0 : Int} {L : List Int} (hp : pathB L = true) {b : Int} (hb : b ≤ 0) (k : Nat) : csD R y0 L b k ≤ 0 := by
  have h1 := Int.mul_le_mul_of_nonneg_left (oldR_le hp hb k) (rais_bd h y0 k).1
  unfold csD prjI
  omega
theorem csE_ok {R : Reg} {L : List Int} (h : RgOk R) (hp : pathB L = true) {b : Int} (hb : -20000 ≤ b ∧ b ≤ 20000) : csE R 0 L b = 0 := by
  unfold csE; rw [if_pos (prE_ok h hp (by omega) (by omega)), if_pos (inB_iff.2 hb)]
theorem csV_ge {R : Reg} (h : RgOk R) {L : List Int} (hp : pathB L = true) {b : Int} (hb : 0 ≤ b) : 0 ≤ csV R 0 L b := by
  unfold csV
  split
  · have := sumF_le (f := fun _ => 0) (g := csD R 0 L b) (L := List.range L.length) fun k _ => csD_ge h hp hb k
    rw [sumF_zero (f := fun _ => 0) fun _ _ => rfl] at this
    exact this
  · omega
theorem csV_le {R : Reg} (h : RgOk R) {L : List Int} (hp : pathB L = true) {b : Int} (hb : b ≤ 0) : csV R 0 L b ≤ 0 := by
  unfold csV
  split
  · have := sumF_le (f := csD R 0 L b) (g := fun _ => 0) (L := List.range L.length) fun k _ => csD_le h hp hb k
    rw [sumF_zero (f := fun _ => 0) fun _ _ => rfl] at this
    exact this
  · omega
theorem csV_zero {R : Reg} (h : RgOk R) {L : List Int} (hp : pathB L = true) : csV R 0 L 0 = 0 := by
  have h1 := csV_ge h hp (b := 0) (by omega)
  have h2 := csV_le h hp (b := 0) (by omega)
  omega
end Go.Proofs.Ytmhglabcnimegaa
