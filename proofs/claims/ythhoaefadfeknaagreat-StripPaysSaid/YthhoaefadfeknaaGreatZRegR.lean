/- register: the place of a security. register: Add. slices.Insert (one element) and slices.Delete (one element) at rows that the call owns. Printed by wip/gen/ins.py. register: Add, the way that ends well. -/
import Derived.Test.YthhoaefadfeknaaGreatZRegN
import Derived.Test.YthhoaefadfeknaaGreatZRegP
import Derived.BigQuiet
namespace Go.Proofs.YthhoaefadfeknaaGreat
open Go.RowKit
set_option linter.unusedVariables false
set_option linter.unusedSimpArgs false
/-- how many securities lie ahead of an id -/
def posS : List Sec → Int → Nat
  | [], _ => 0
  | x :: L, id => if x.id < id then posS L id + 1 else 0
theorem posS_le : ∀ (L : List Sec) (id : Int), posS L id ≤ L.length
  | [], _ => Nat.le_refl _
  | x :: L, id => by
    have := posS_le L id
    simp only [posS, List.length_cons]; split <;> omega
theorem secsB_gt : ∀ {p : Int} {L : List Sec}, secsB p L = true → ∀ s ∈ L, p < s.id
  | p, [], _, s, hs => by simp at hs
  | p, x :: L, h, s, hs => by
    simp only [secsB, Bool.and_eq_true, decide_eq_true_eq] at h
    rcases List.mem_cons.1 hs with rfl | hs
    · exact h.2.1
    · have := secsB_gt h.2.2 s hs; omega
theorem lt_posS : ∀ {p : Int} {L : List Sec} {id : Int}, secsB p L = true → ∀ {m : Nat} {x : Sec}, L[m]? = some x → decide (x.id < id) = decide (m < posS L id)
  | _, [], _, _, m, x, hx => by simp at hx
  | p, y :: L, id, h, m, x, hx => by
    simp only [secsB, Bool.and_eq_true, decide_eq_true_eq] at h
    rw [decide_eq_decide]
    have e : posS (y :: L) id = if y.id < id then posS L id + 1 else 0 := rfl
    rw [e]
    cases m with
    | zero =>
      simp only [List.getElem?_cons_zero, Option.some.injEq] at hx
      subst hx
      split <;> omega
    | succ m =>
      simp only [List.getElem?_cons_succ] at hx
      have ih := lt_posS (id := id) h.2.2 hx
      rw [decide_eq_decide] at ih
      split
      · omega
      · have := secsB_gt h.2.2 x (List.mem_of_getElem? hx); omega
def isS (L : List Sec) (id : Int) : Bool := match L[posS L id]? with | some x => decide (x.id = id) | none => false
theorem findS_none : ∀ {p : Int} {L : List Sec} {id : Int}, secsB p L = true → id ≤ p → findS L id = none
  | _, [], _, _, _ => rfl
  | p, y :: L, id, h, hp => by
    simp only [secsB, Bool.and_eq_true, decide_eq_true_eq] at h
    simp only [findS]
    rw [if_neg (by omega)]
    exact findS_none h.2.2 (by omega)
theorem isS_find : ∀ {p : Int} {L : List Sec} {id : Int}, secsB p L = true → isS L id = (findS L id).isSome
  | _, [], _, _ => rfl
  | p, y :: L, id, h => by
    have h0 := h
    simp only [secsB, Bool.and_eq_true, decide_eq_true_eq] at h
    have ih := isS_find (id := id) h.2.2
    unfold isS at ih ⊢
    simp only [posS, findS]
    by_cases h1 : y.id < id
    · rw [if_pos h1, if_neg (by omega)]
      simpa using ih
    · rw [if_neg h1]
      by_cases h2 : y.id = id
      · simp [h2]
      · rw [if_neg h2, findS_none h.2.2 (by omega)]
        simp [h2]
theorem cmpI_cases (a b : Int) : (cmpI a b = -1 ∧ a < b) ∨ (cmpI a b = 0 ∧ a = b) ∨ (cmpI a b = 1 ∧ b < a) := by
  unfold cmpI
  repeat' split
  all_goals omega
end Go.Proofs.YthhoaefadfeknaaGreat
namespace Go.Proofs.YthhoaefadfeknaaGreat
open Go.RowKit
set_option linter.unusedVariables false
set_option linter.unusedSimpArgs false
/-- the error and the register of Add -/
def raE (R : Reg) (x : Sec) : Int := if chkE R = 0 then (if secOk x = true ∧ isS R.secs x.id = false then (if R.secs.length = 20 then 3 else 0) else 76) else chkE R
def raR (R : Reg) (x : Sec) : Reg := if raE R x = 0 then ⟨R.secs.take (posS R.secs x.id) ++ x :: R.secs.drop (posS R.secs x.id), R.hs, R.ms⟩ else ⟨[], [], []⟩
end Go.Proofs.YthhoaefadfeknaaGreat
namespace Go.Proofs.YthhoaefadfeknaaGreat
open Go.RowKit
set_option linter.unusedVariables false
set_option linter.unusedSimpArgs false

end Go.Proofs.YthhoaefadfeknaaGreat
namespace Go.Proofs.YthhoaefadfeknaaGreat
open Go.RowKit
set_option linter.unusedVariables false
set_option linter.unusedSimpArgs false
/-- the register that Add hands back -/
theorem radd_fin {P : Nat → Prop} {R : Reg} {L : List Sec} {w W5 W6 W7 : World} {B : Nat} {s0 s1 s2 s3 : Option Addr} {t0 t1 t2 t3 : Nat} {o : Obj} (hP : ∀ b, w.heap.size ≤ b → P b)
    (h5 : Below w.heap.size w W5) (h6 : W6 = W5.alloc o) (h7 : W6.grownBy W7 (Value.slice s0 R.secs.length t0).ownBlock) (hB : w.heap.size + 3 ≤ B)
    (o0 : W5.ownsRow B 26 7 (.slice s0 R.secs.length t0) R.secs.length (flatE encSec R.secs))
    (o2 : W5.ownsRow B 127 3 (.slice s2 R.hs.length t2) R.hs.length (flatE encHold R.hs))
    (o3 : W5.ownsRow B 130 7 (.slice s3 R.ms.length t3) R.ms.length (flatE encMv R.ms))
    (o7 : W7.ownsRow B 26 7 (.slice s1 (R.secs.length + 1) t1) (R.secs.length + 1) (flatE encSec L)) (hL : L.length = R.secs.length + 1) :
    GaveR P ⟨L, R.hs, R.ms⟩ 0 w (.returned (.tuple #[.agg #[.slice s1 (R.secs.length + 1) t1, .slice s2 R.hs.length t2, .slice s3 R.ms.length t3], .int .i64 0]))
      ((((W7.setCell ⟨w.heap.size, 0, none⟩ (.slice s1 (R.secs.length + 1) t1)).setCell ⟨w.heap.size + 1 + 1, 0, none⟩ (.slice s1 (R.secs.length + 1) t1)).setCell ⟨w.heap.size + 1 + 1, 1, none⟩ (.slice s2 R.hs.length t2)).setCell ⟨w.heap.size + 1 + 1, 2, none⟩ (.slice s3 R.ms.length t3)) := by
  have q0 : W6.ownsRow B 26 7 (.slice s0 R.secs.length t0) R.secs.length (flatE encSec R.secs) := by rw [h6]; exact o0.alloc _
  have q2 : W6.ownsRow B 127 3 (.slice s2 R.hs.length t2) R.hs.length (flatE encHold R.hs) := by rw [h6]; exact o2.alloc _
  have q3 : W6.ownsRow B 130 7 (.slice s3 R.ms.length t3) R.ms.length (flatE encMv R.ms) := by rw [h6]; exact o3.alloc _
  have p2 := q2.kept h7 (own_apart q2 q0 (by decide))
  have p3 := q3.kept h7 (own_apart q3 q0 (by decide))
  have g1 : W7.grownBy (W7.setCell ⟨w.heap.size, 0, none⟩ (.slice s1 (R.secs.length + 1) t1)) (some w.heap.size) := grownBy_setCellZ ..
  have g2 := grownBy_set3 (W7.setCell ⟨w.heap.size, 0, none⟩ (.slice s1 (R.secs.length + 1) t1)) (w.heap.size + 1 + 1) (.slice s1 (R.secs.length + 1) t1) (.slice s2 R.hs.length t2) (.slice s3 R.ms.length t3)
  have r2 := own_kept (own_kept p2 g1 (by omega)) g2 (by omega)
  have r3 := own_kept (own_kept p3 g1 (by omega)) g2 (by omega)
  have r7 := own_kept (own_kept o7 g1 (by omega)) g2 (by omega)
  have h66 : Below w.heap.size w W6 := by rw [h6]; exact bal h5 o
  have z5 := h5.size
  have z6 := h66.size
  have b7 : Below w.heap.size w W7 := h66.grown h7 z6 (fun k hk => by have := (q0.lt k hk).1; omega)
  exact ⟨_, _, _, rfl, ⟨Sl.own encSec_len r7 hL (fun b hb => hP b (by omega)), Sl.own encHold_len r2 rfl (fun b hb => hP b (by omega)), Sl.own encMv_len r3 rfl (fun b hb => hP b (by omega))⟩, bset3 (bset b7 (Nat.le_refl _) _) (by omega) _ _ _⟩
end Go.Proofs.YthhoaefadfeknaaGreat
