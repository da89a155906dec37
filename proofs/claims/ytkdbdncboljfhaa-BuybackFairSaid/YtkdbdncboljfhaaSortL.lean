/- Stable sorting in place: plain lists, for elements of any type. -/
import Derived.Test.YtkdbdncboljfhaaSortP
import Derived.Test.YtkdbdncboljfhaaRowZ
namespace Go.Proofs.Ytkdbdncboljfhaa
open Go.RowKit
set_option linter.unusedVariables false
set_option linter.unusedSimpArgs false
/-- 'x lies ahead of y', as the sort asks it -/
def ltz {α : Type} (cf : α → α → Int) (x y : α) : Bool := decide (cf x y < 0)
theorem ztrans {a b c : World} {x : Option Nat} (h : a.grownBy b x) (k : b.grownBy c x) : a.grownBy c x :=
  ⟨k.os.trans h.os, k.tape.trans h.tape, k.output.trans h.output, Nat.le_trans h.size k.size, fun i hi hx => (k.block i (Nat.lt_of_lt_of_le hi h.size) hx).trans (h.block i hi hx)⟩
theorem zrefl (a : World) (x : Option Nat) : a.grownBy a x := ⟨rfl, rfl, rfl, Nat.le_refl _, fun _ _ _ => rfl⟩
theorem zbelow {w w' : World} (h : Below w.heap.size w w') (x : Option Nat) : w.grownBy w' x := ⟨h.os, h.tape, h.output, h.size, fun b hb _ => h.block b hb⟩
theorem zget_pair {α : Type} (P R : List α) (y x : α) : (P ++ y :: x :: R)[P.length]? = some y ∧ (P ++ y :: x :: R)[P.length + 1]? = some x := by
  constructor
  · simp
  · rw [List.getElem?_append_right (by omega)]; simp
theorem zset_pair {α : Type} (P R : List α) (y x a b : α) : ((P ++ y :: x :: R).set (P.length + 1) a).set P.length b = P ++ b :: a :: R := by
  rw [List.set_append_right _ _ (by omega), List.set_append_right _ _ (by omega)]
  simp [show P.length + 1 - P.length = 1 by omega]
theorem zset_pair' {α : Type} (P R : List α) (y x a b : α) : ((P ++ y :: x :: R).set P.length a).set (P.length + 1) b = P ++ a :: b :: R := by
  rw [List.set_append_right _ _ (by omega), List.set_append_right _ _ (by omega)]
  simp [show P.length + 1 - P.length = 1 by omega]
theorem zsnoc_cases {α : Type} (L : List α) : L = [] ∨ ∃ S y, L = S ++ [y] := by
  rcases List.eq_nil_or_concat L with h | ⟨S, y, h⟩
  · exact .inl h
  · exact .inr ⟨S, y, by rw [h, List.concat_eq_append]⟩
section
variable {α : Type} {enc : α → List Value} {z : Nat} {T : TypeId} {base g n cap : Nat} {w : World}
/-- an exchange of neighbours -/
theorem RowZ.nbr (hz : ∀ a, (enc a).length = z) {P R : List α} {y x : α} (h : RowZ T z enc base g n cap (P ++ y :: x :: R) w) (q : Nat) {j jp : Nat} (hp : P.length = jp) (hj : j = jp + 1) :
    RowZ T z enc base g n cap (P ++ x :: y :: R) ((setAllW (setAllW w g (j * z) (enc y)) g (jp * z) (enc x)).drewN q) ∧ w.grownBy ((setAllW (setAllW w g (j * z) (enc y)) g (jp * z) (enc x)).drewN q) (some g) := by
  subst hj hp
  have := h.swap hz (i := P.length + 1) (j := P.length) (by simp) (by simp) y x q
  rwa [zset_pair] at this
variable {lt : α → α → Bool}
/-- the inner loop's list -/
def InInz (lt : α → α → Bool) (X S T : List α) (x : α) (j : Nat) (D : List α) : Prop :=
  ∃ S1 S2, S = S1 ++ S2 ∧ j = X.length + S1.length ∧ D = X ++ S1 ++ x :: (S2 ++ T) ∧ ∀ y ∈ S2, lt x y = true
theorem InInz.out (H : Wk lt) {X S T : List α} {x : α} {j : Nat} {D : List α} (h : InInz lt X S T x j D) (hS : Asc lt S) (hx : j = X.length ∨ ∃ y, D[j - 1]? = some y ∧ lt x y = false) : D = X ++ mrg lt S [x] ++ T := by
  obtain ⟨S1, S2, rfl, rfl, rfl, h2⟩ := h
  rw [mrg_put H hS h2]
  · simp
  · rcases zsnoc_cases S1 with rfl | ⟨S, y, rfl⟩
    · exact .inl rfl
    · refine .inr ⟨S, y, rfl, ?_⟩
      rcases hx with hx | ⟨z, hz, hlt⟩
      · simp at hx
      · have e : (X ++ (S ++ [y]) ++ x :: (S2 ++ T))[X.length + (S ++ [y]).length - 1]? = some y := by
          rw [List.getElem?_append_left (by simp), List.getElem?_append_right (by simp)]
          simp [show X.length + (S.length + 1) - 1 - X.length = S.length by omega]
        rw [e] at hz
        cases hz
        exact hlt
theorem InInz.step {X S T : List α} {x : α} {j : Nat} {D : List α} (h : InInz lt X S T x j D) (hj : X.length < j) :
    ∃ P y R, D = P ++ y :: x :: R ∧ P.length + 1 = j ∧ (lt x y = true → InInz lt X S T x P.length (P ++ x :: y :: R)) := by
  obtain ⟨S1, S2, rfl, rfl, rfl, h2⟩ := h
  rcases zsnoc_cases S1 with rfl | ⟨S, y, rfl⟩
  · simp at hj
  · refine ⟨X ++ S, y, S2 ++ T, by simp, by simp; omega, fun hl => ⟨S, y :: S2, by simp, by simp, by simp, fun z hz => ?_⟩⟩
    rcases List.mem_cons.1 hz with rfl | hz
    · exact hl
    · exact h2 z hz
theorem InInz.mem {X S T : List α} {x : α} {j : Nat} {D : List α} (h : InInz lt X S T x j D) {Q : α → Prop} (hS : ∀ z ∈ S, Q z) (hj : X.length < j) {y : α} (hy : D[j - 1]? = some y) : Q y := by
  obtain ⟨S1, S2, rfl, rfl, rfl, h2⟩ := h
  rw [List.getElem?_append_left (by simp; omega), List.getElem?_append_right (by omega)] at hy
  exact hS y (List.mem_append_left _ (List.mem_of_getElem? hy))
end
end Go.Proofs.Ytkdbdncboljfhaa
