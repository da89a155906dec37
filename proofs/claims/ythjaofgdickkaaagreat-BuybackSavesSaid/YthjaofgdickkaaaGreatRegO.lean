/- register: the place of a security. -/
import Derived.Test.YthjaofgdickkaaaGreatRegN
namespace Go.Proofs.YthjaofgdickkaaaGreat
open Go.RowKit
set_option linter.unusedVariables false
set_option linter.unusedSimpArgs false
/-- how many securities lie ahead of an id -/
def posS : List Sec → Int → Nat
  | [], _ => 0
  | x :: L, id => if x.id < id then posS L id + 1 else 0
theorem posS_le : ∀ (L : List Sec) (id : Int), posS L id ≤ L.length
  | [], _ => Nat.le_refl _
  | x :: L, id => by
    have := posS_le L id
    simp only [posS, List.length_cons]; split <;> omega
theorem secsB_gt : ∀ {p : Int} {L : List Sec}, secsB p L = true → ∀ s ∈ L, p < s.id
  | p, [], _, s, hs => by simp at hs
  | p, x :: L, h, s, hs => by
    simp only [secsB, Bool.and_eq_true, decide_eq_true_eq] at h
    rcases List.mem_cons.1 hs with rfl | hs
    · exact h.2.1
    · have := secsB_gt h.2.2 s hs; omega
theorem lt_posS : ∀ {p : Int} {L : List Sec} {id : Int}, secsB p L = true → ∀ {m : Nat} {x : Sec}, L[m]? = some x → decide (x.id < id) = decide (m < posS L id)
  | _, [], _, _, m, x, hx => by simp at hx
  | p, y :: L, id, h, m, x, hx => by
    simp only [secsB, Bool.and_eq_true, decide_eq_true_eq] at h
    rw [decide_eq_decide]
    have e : posS (y :: L) id = if y.id < id then posS L id + 1 else 0 := rfl
    rw [e]
    cases m with
    | zero =>
      simp only [List.getElem?_cons_zero, Option.some.injEq] at hx
      subst hx
      split <;> omega
    | succ m =>
      simp only [List.getElem?_cons_succ] at hx
      have ih := lt_posS (id := id) h.2.2 hx
      rw [decide_eq_decide] at ih
      split
      · omega
      · have := secsB_gt h.2.2 x (List.mem_of_getElem? hx); omega
def isS (L : List Sec) (id : Int) : Bool := match L[posS L id]? with | some x => decide (x.id = id) | none => false
theorem findS_none : ∀ {p : Int} {L : List Sec} {id : Int}, secsB p L = true → id ≤ p → findS L id = none
  | _, [], _, _, _ => rfl
  | p, y :: L, id, h, hp => by
    simp only [secsB, Bool.and_eq_true, decide_eq_true_eq] at h
    simp only [findS]
    rw [if_neg (by omega)]
    exact findS_none h.2.2 (by omega)
theorem isS_find : ∀ {p : Int} {L : List Sec} {id : Int}, secsB p L = true → isS L id = (findS L id).isSome
  | _, [], _, _ => rfl
  | p, y :: L, id, h => by
    have h0 := h
    simp only [secsB, Bool.and_eq_true, decide_eq_true_eq] at h
    have ih := isS_find (id := id) h.2.2
    unfold isS at ih ⊢
    simp only [posS, findS]
    by_cases h1 : y.id < id
    · rw [if_pos h1, if_neg (by omega)]
      simpa using ih
    · rw [if_neg h1]
      by_cases h2 : y.id = id
      · simp [h2]
      · rw [if_neg h2, findS_none h.2.2 (by omega)]
        simp [h2]
theorem cmpI_cases (a b : Int) : (cmpI a b = -1 ∧ a < b) ∨ (cmpI a b = 0 ∧ a = b) ∨ (cmpI a b = 1 ∧ b < a) := by
  unfold cmpI
  repeat' split
  all_goals omega
end Go.Proofs.YthjaofgdickkaaaGreat
