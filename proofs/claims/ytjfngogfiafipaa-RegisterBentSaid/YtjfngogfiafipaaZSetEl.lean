/- A field of an element of a slice is stored to. -/
import Derived.Test.YtjfngogfiafipaaZL33PlE
namespace Go.Proofs.Ytjfngogfiafipaa
open Go.RowKit
set_option linter.unusedVariables false
set_option linter.unusedSimpArgs false
theorem lit_ne {g a b : Nat} (h : a ≠ b) : (⟨g, a, none⟩ : Addr) ≠ ⟨g, b, none⟩ := by
  intro e; injection e; omega
theorem off_ne {j q z i d : Nat} (hj : j ≠ q) (hi : i < z) (hd : d < z) : q * z + d ≠ j * z + i := by
  rcases Nat.lt_or_gt_of_ne hj with h | h
  · have := Nat.mul_le_mul_right z (show j + 1 ≤ q by omega)
    rw [Nat.succ_mul] at this
    omega
  · have := Nat.mul_le_mul_right z (show q + 1 ≤ j by omega)
    rw [Nat.succ_mul] at this
    omega
theorem Sl.setElem {α : Type} {z : Nat} {enc : α → List Value} (hz : ∀ a, (enc a).length = z) {P : Nat → Prop} {w : World} {g n c : Nat} {L : List α} (h : Sl z enc P w (.slice (some ⟨g, 0, none⟩) n c) L) {q d : Nat} {a a' : α} {v : Value} (hq : L[q]? = some a) (hd : d < z) (hv : (enc a')[d]? = some v) (hs : ∀ i, i ≠ d → (enc a')[i]? = (enc a)[i]?) :
    Sl z enc P (w.setCell ⟨g, q * z + d, none⟩ v) (.slice (some ⟨g, 0, none⟩) n c) (L.set q a') := by
  obtain ⟨ao', n', c', h1, h2, h3, h4, h5⟩ := h
  cases h1
  have hql := (List.getElem?_eq_some_iff.1 hq).1
  refine ⟨_, n, c, rfl, by rw [List.length_set]; exact h2, h3, h4, ?_⟩
  rcases h5 with h5 | ⟨b, off, k1, k2, k3, k4⟩
  · omega
  · cases k1
    refine .inr ⟨g, 0, rfl, k2, by simpa [World.setCell] using k3, fun j x hj i u hi => ?_⟩
    have hil : i < z := by have := (List.getElem?_eq_some_iff.1 hi).1; rw [hz] at this; exact this
    rw [Nat.zero_add]
    by_cases hjq : j = q
    · subst hjq
      rw [List.getElem?_set_self hql] at hj
      cases hj
      by_cases hid : i = d
      · subst hid
        rw [hv] at hi
        cases hi
        have hdl : i < (enc a).length := by rw [hz]; exact hd
        have := k4 j a hq i _ (List.getElem?_eq_getElem hdl)
        rw [Nat.zero_add] at this
        exact World.cell?_setCell_same _ _ _ this
      · rw [World.cell?_setCell_other _ _ _ _ (lit_ne (by omega))]
        rw [hs i hid] at hi
        have := k4 j a hq i u hi
        rw [Nat.zero_add] at this
        exact this
    · rw [List.getElem?_set_ne (fun e => hjq e.symm)] at hj
      rw [World.cell?_setCell_other _ _ _ _ (lit_ne (off_ne hjq hil hd))]
      have := k4 j x hj i u hi
      rw [Nat.zero_add] at this
      exact this
end Go.Proofs.Ytjfngogfiafipaa
