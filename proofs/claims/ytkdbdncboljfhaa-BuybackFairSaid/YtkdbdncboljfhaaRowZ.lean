/- A row of structs that is the call's own, and turned in place: elements of any size. -/
import Derived.Test.YtkdbdncboljfhaaRow
import Derived.Laws.OwnMore
namespace Go.Proofs.Ytkdbdncboljfhaa
open Go.RowKit
set_option linter.unusedVariables false
/-- cells stored one after the other, from o on -/
def setAll (xs : List Value) (o : Nat) : List Value → List Value
  | [] => xs
  | v :: vs => setAll (xs.set o v) (o + 1) vs
def setAllW (w : World) (g o : Nat) : List Value → World
  | [] => w
  | v :: vs => setAllW (w.setCell ⟨g, o, none⟩ v) g (o + 1) vs
theorem setAll_mid : ∀ (vs A B C : List Value), B.length = vs.length → setAll (A ++ (B ++ C)) A.length vs = A ++ (vs ++ C)
  | [], A, B, C, h => by
    have : B = [] := List.eq_nil_of_length_eq_zero (by simpa using h)
    subst this; rfl
  | v :: vs, A, [], C, h => by simp at h
  | v :: vs, A, b :: B, C, h => by
    have e : (A ++ (b :: B ++ C)).set A.length v = (A ++ [v]) ++ (B ++ C) := by
      rw [List.set_append_right _ _ (Nat.le_refl _)]; simp
    have ih := setAll_mid vs (A ++ [v]) B C (by simpa using h)
    rw [setAll, e, show A.length + 1 = (A ++ [v]).length by simp, ih]
    simp
section
variable {α : Type} {enc : α → List Value} {z : Nat} {T : TypeId}
theorem flatE_setZ (hz : ∀ a, (enc a).length = z) {L : List α} {j : Nat} (hj : j < L.length) (x : α) : flatE enc (L.set j x) = setAll (flatE enc L) (j * z) (enc x) := by
  have e : L = L.take j ++ L[j] :: L.drop (j + 1) := by rw [← List.drop_eq_getElem_cons hj, List.take_append_drop]
  have e2 : L.set j x = L.take j ++ x :: L.drop (j + 1) := by
    conv => lhs; rw [e]
    rw [List.set_append_right _ _ (by simp; omega), show j - (L.take j).length = 0 by simp; omega, List.set_cons_zero]
  have hl : (flatE enc (L.take j)).length = j * z := by rw [flatE_length hz, List.length_take, Nat.min_eq_left (Nat.le_of_lt hj)]
  rw [e2]
  conv => rhs; rw [e]
  have f : ∀ y, flatE enc (L.take j ++ y :: L.drop (j + 1)) = flatE enc (L.take j) ++ (enc y ++ flatE enc (L.drop (j + 1))) := fun y => by simp [flatE]
  rw [f, f, ← hl, setAll_mid _ _ _ _ (by rw [hz, hz])]
/-- the list L lies in the row of block g -/
def RowZ (T : TypeId) (z : Nat) (enc : α → List Value) (base g n cap : Nat) (L : List α) (w : World) : Prop := w.ownsRow base T z (.slice (some ⟨g, 0, none⟩) n cap) n (flatE enc L) ∧ L.length = n
variable {base g n cap : Nat} {L : List α} {w w' : World}
theorem RowZ.drewN (h : RowZ T z enc base g n cap L w) (q : Nat) : RowZ T z enc base g n cap L (w.drewN q) := ⟨h.1, h.2⟩
theorem RowZ.below (h : RowZ T z enc base g n cap L w) (hb : Below w.heap.size w w') : RowZ T z enc base g n cap L w' := ⟨ownsRow_belowZ h.1 hb, h.2⟩
theorem RowZ.cell (hz : ∀ a, (enc a).length = z) (h : RowZ T z enc base g n cap L w) {j i : Nat} {x : α} {u : Value} (hx : L[j]? = some x) (hu : (enc x)[i]? = some u) : w.cell? ⟨g, j * z + i, none⟩ = some u := by
  have hj : j < n := by rw [← h.2]; exact (List.getElem?_eq_some_iff.1 hx).1
  have hi : i < z := by have := (List.getElem?_eq_some_iff.1 hu).1; rw [hz] at this; exact this
  have hlt : j * z + i < n * z := by
    have := Nat.mul_le_mul_right z (show j + 1 ≤ n by omega)
    rw [Nat.succ_mul] at this; omega
  rw [h.1.cellAt _ hlt]
  exact flatE_get hz L j x hx i u hu
theorem RowZ.fro (h : RowZ T z enc base g n cap L w) (o : Nat) : w.frozen? ⟨g, o, none⟩ = false := h.1.frozenAt o
theorem own_setAll {e : TypeId} {z : Nat} : ∀ (vs xs : List Value) (o : Nat) (w : World), w.ownsRow base e z (.slice (some ⟨g, 0, none⟩) n cap) n xs →
    (setAllW w g o vs).ownsRow base e z (.slice (some ⟨g, 0, none⟩) n cap) n (setAll xs o vs) ∧ w.grownBy (setAllW w g o vs) (some g)
  | [], xs, o, w, h => ⟨h, ⟨rfl, rfl, rfl, Nat.le_refl _, fun _ _ _ => rfl⟩⟩
  | v :: vs, xs, o, w, h => by
    obtain ⟨h1, g1⟩ := h.stored o v
    obtain ⟨h2, g2⟩ := own_setAll vs _ (o + 1) _ h1
    exact ⟨h2, ⟨g2.os.trans g1.os, g2.tape.trans g1.tape, g2.output.trans g1.output, Nat.le_trans g1.size g2.size, fun i hi hx => (g2.block i (Nat.lt_of_lt_of_le hi g1.size) hx).trans (g1.block i hi hx)⟩⟩
theorem RowZ.set (hz : ∀ a, (enc a).length = z) (h : RowZ T z enc base g n cap L w) {j : Nat} (hj : j < L.length) (x : α) : RowZ T z enc base g n cap (L.set j x) (setAllW w g (j * z) (enc x)) ∧ w.grownBy (setAllW w g (j * z) (enc x)) (some g) := by
  obtain ⟨h1, g1⟩ := own_setAll (enc x) (flatE enc L) (j * z) w h.1
  refine ⟨⟨?_, by rw [List.length_set]; exact h.2⟩, g1⟩
  rw [flatE_setZ hz hj]; exact h1
theorem RowZ.swap (hz : ∀ a, (enc a).length = z) (h : RowZ T z enc base g n cap L w) {i j : Nat} (hi : i < L.length) (hj : j < L.length) (x y : α) (q : Nat) :
    RowZ T z enc base g n cap ((L.set i x).set j y) ((setAllW (setAllW w g (i * z) (enc x)) g (j * z) (enc y)).drewN q) ∧ w.grownBy ((setAllW (setAllW w g (i * z) (enc x)) g (j * z) (enc y)).drewN q) (some g) := by
  obtain ⟨h1, g1⟩ := h.set hz hi x
  obtain ⟨h2, g2⟩ := h1.set hz (j := j) (by rw [List.length_set]; exact hj) y
  exact ⟨h2.drewN q, ⟨g2.os.trans g1.os, g2.tape.trans g1.tape, g2.output.trans g1.output, Nat.le_trans g1.size g2.size, fun i hi hx => (g2.block i (Nat.lt_of_lt_of_le hi g1.size) hx).trans (g1.block i hi hx)⟩⟩
end
end Go.Proofs.Ytkdbdncboljfhaa
