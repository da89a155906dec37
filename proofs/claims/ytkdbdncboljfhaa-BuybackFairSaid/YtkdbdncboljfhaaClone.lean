/- slices.Clone at slices of structs. Printed by wip/gen/clone.py. -/
import Derived.Test.YtkdbdncboljfhaaOwn
import Derived.Test.YtkdbdncboljfhaaTypes
import Derived.WalkSpells
namespace Go.Proofs.Ytkdbdncboljfhaa
open Go.RowKit
set_option linter.unusedVariables false
set_option linter.unusedSimpArgs false

theorem flatE_cells {α : Type} {z : Nat} {enc : α → List Value} (hz : ∀ a, (enc a).length = z) {w : World} {b : Nat} : ∀ (L : List α) (off : Nat), (∀ (k : Nat) (a : α), L[k]? = some a → ∀ i u, (enc a)[i]? = some u → w.cell? ⟨b, off + k * z + i, none⟩ = some u) → ∀ j u, (flatE enc L)[j]? = some u → w.cell? ⟨b, off + j, none⟩ = some u
  | [], off, h, j, u, hj => by simp [flatE] at hj
  | x :: L, off, h, j, u, hj => by
    have hj' : (enc x ++ flatE enc L)[j]? = some u := by simpa [flatE] using hj
    rcases Nat.lt_or_ge j z with hlt | hge
    · rw [List.getElem?_append_left (by rw [hz]; exact hlt)] at hj'
      have := h 0 x rfl j u hj'
      simpa using this
    · rw [List.getElem?_append_right (by rw [hz]; exact hge), hz] at hj'
      have := flatE_cells hz (w := w) (b := b) L (off + z) (fun k a hk i v hi => by
        have q := h (k + 1) a (by simpa using hk) i v hi
        rw [show off + (k + 1) * z + i = off + z + k * z + i by rw [Nat.add_mul]; omega] at q
        exact q) (j - z) u hj'
      rw [show off + z + (j - z) = off + j by omega] at this
      exact this
/-- what a copy is: a row of its own with the same elements -/
def Copied {α : Type} (z : Nat) (enc : α → List Value) (T : TypeId) (L : List α) (w : World) (e : Ending) (w' : World) : Prop :=
  ∃ v, e = .returned v ∧ w'.ownsRow w.heap.size T z v L.length (flatE enc L) ∧ Below w.heap.size w w'
theorem own_slice0 {w : World} {base : Nat} {e : TypeId} {z : Nat} {v : Value} {n : Nat} {xs : List Value} (h : w.ownsRow base e z v n xs) : ∃ ao c, v = .slice ao n c := by
  rcases h.2 with ⟨rfl, rfl⟩ | ⟨g, cap, cur, rfl, _⟩
  · exact ⟨_, _, rfl⟩
  · exact ⟨_, _, rfl⟩
end Go.Proofs.Ytkdbdncboljfhaa
