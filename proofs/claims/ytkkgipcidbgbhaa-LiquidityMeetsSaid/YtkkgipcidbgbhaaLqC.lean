/- liquidity.Apply. -/
import Derived.Test.YtkkgipcidbgbhaaLqB
namespace Go.Proofs.Ytkkgipcidbgbhaa
open Go.RowKit
set_option linter.unusedVariables false
set_option linter.unusedSimpArgs false
def totB (a : Int) : Bool := inB a (-1000000000000000) 1000000000000000
def amtAt (L : List (Int × Int)) (k : Nat) : Int := (L.getD k (0, 0)).2
/-- one plan's amounts at its day's position -/
def stepA (L out : List (Int × Int)) (p : Int × Int × Int) : List (Int × Int) :=
  out.set (dayI L p.1).toNat ((out.getD (dayI L p.1).toNat (0, 0)).1, amtAt out (dayI L p.1).toNat + (p.2.1 - p.2.2))
def runA (L : List (Int × Int)) : List (Int × Int) → List (Int × Int × Int) → Option (List (Int × Int))
  | out, [] => some out
  | out, p :: Q => if totB (amtAt (stepA L out p) (dayI L p.1).toNat) then runA L (stepA L out p) Q else none
def badL (L : List (Int × Int)) : Bool := L.any fun x => !totB x.2
def badQ (Q : List (Int × Int × Int)) : Bool := Q.any fun p => !amB p.2.1 p.2.2
def apE (L : List (Int × Int)) (Q : List (Int × Int × Int)) : Int :=
  if badL L || badQ Q then 2 else if ascB L.length (pd2 L) && plB L Q then (if (runA L L Q).isSome then 0 else 2) else 8
def apL (L : List (Int × Int)) (Q : List (Int × Int × Int)) : List (Int × Int) := if apE L Q = 0 then (runA L L Q).getD [] else []
theorem idxI_lt {α : Type} (p : α → Bool) : ∀ (L : List α), idxI p L < L.length
  | [] => by simp [idxI]
  | x :: L => by
    have := idxI_lt p L
    unfold idxI
    simp only [List.length_cons]
    repeat' split
    all_goals omega
theorem plB_day {L : List (Int × Int)} {Q : List (Int × Int × Int)} (h : plB L Q = true) {p : Int × Int × Int} (hp : p ∈ Q) : 0 ≤ dayI L p.1 ∧ dayI L p.1 < L.length := by
  unfold plB at h
  rw [Bool.and_eq_true] at h
  have h2 := h.2
  rw [Bool.not_eq_true', List.any_eq_false] at h2
  have := h2 p hp
  simp only [decide_eq_true_eq] at this
  exact ⟨by omega, idxI_lt _ _⟩
theorem badQ_am {Q : List (Int × Int × Int)} (h : badQ Q = false) {p : Int × Int × Int} (hp : p ∈ Q) : (0 ≤ p.2.1 ∧ p.2.1 ≤ 1000000000000) ∧ 0 ≤ p.2.2 ∧ p.2.2 ≤ 1000000000000 := by
  have := List.any_eq_false.1 h p hp
  exact amB_iff.1 (by simpa using this)
theorem badL_tot {L : List (Int × Int)} (h : badL L = false) {x : Int × Int} (hx : x ∈ L) : totB x.2 = true := by
  have := List.any_eq_false.1 h x hx
  simpa using this
/-- what Apply leaves -/
def Applied (E : Int) (L : List (Int × Int)) (w : World) (e : Ending) (w' : World) : Prop :=
  ∃ v, e = .returned (.tuple #[v, .int .i64 E]) ∧ Sl 2 encP (fun b => w.heap.size ≤ b) w' v L ∧ Below w.heap.size w w'
theorem applied_nil {E : Int} {L : List (Int × Int)} {w w' : World} (hL : L = []) (hb : Below w.heap.size w w') : Applied E L w (.returned (.tuple #[.slice none 0 0, .int .i64 E])) w' := by
  subst hL; exact ⟨_, rfl, Sl.nil, hb⟩
def RowP (base g n cap : Nat) (L : List (Int × Int)) (w : World) : Prop := w.ownsRow base 35 2 (.slice (some ⟨g, 0, none⟩) n cap) n (flatE encP L) ∧ L.length = n
theorem flatP_set : ∀ (L : List (Int × Int)) (k : Nat) (d a b : Int), L[k]? = some (d, a) → (flatE encP L).set (k * 2 + 1) (.int .i64 b) = flatE encP (L.set k (d, b))
  | [], k, d, a, b, h => by simp at h
  | x :: L, 0, d, a, b, h => by
    simp only [List.getElem?_cons_zero, Option.some.injEq] at h
    subst h
    simp [flatE, encP]
  | x :: L, k + 1, d, a, b, h => by
    simp only [List.getElem?_cons_succ] at h
    have ih := flatP_set L k d a b h
    simp only [flatE, List.flatMap_cons, List.set_cons_succ] at ih ⊢
    rw [← ih, show (k + 1) * 2 + 1 = (encP x).length + (k * 2 + 1) by simp [encP]; omega, List.set_append_right _ _ (by omega)]
    congr 2; omega
theorem RowP.at_ {base g n cap : Nat} {L : List (Int × Int)} {w : World} (h : RowP base g n cap L w) {k : Nat} {d a : Int} (hx : L[k]? = some (d, a)) :
    w.cell? ⟨g, k * 2, none⟩ = some (.int .i64 d) ∧ w.cell? ⟨g, k * 2 + 1, none⟩ = some (.int .i64 a) ∧ w.frozen? ⟨g, k * 2 + 1, none⟩ = false ∧ k < n ∧ n ≤ cap := by
  have hj : k < n := by rw [← h.2]; exact (List.getElem?_eq_some_iff.1 hx).1
  have hf := flatE_length encP_len L
  have hs := Sl.own encP_len (P := fun _ => True) h.1 h.2 (fun _ _ => trivial)
  obtain ⟨b, off, d', a', e1, -, -, e2, e3, e4⟩ := hs.pos hj
  cases e1
  cases hx.symm.trans e2
  obtain ⟨ao, n', c', e5, -, e6, -⟩ := hs.shape
  cases e5
  exact ⟨by simpa using e3, by simpa using e4, h.1.frozenAt _, hj, e6⟩
theorem RowP.set {base g n cap : Nat} {L : List (Int × Int)} {w : World} (h : RowP base g n cap L w) {k : Nat} {d a : Int} (hx : L[k]? = some (d, a)) (b : Int) :
    RowP base g n cap (L.set k (d, b)) (w.setCell ⟨g, k * 2 + 1, none⟩ (.int .i64 b)) ∧ w.grownBy (w.setCell ⟨g, k * 2 + 1, none⟩ (.int .i64 b)) (some g) := by
  have := h.1.stored (k * 2 + 1) (.int .i64 b)
  refine ⟨⟨?_, by rw [List.length_set]; exact h.2⟩, this.2⟩
  rw [← flatP_set L k d a b hx]; exact this.1
theorem RowP.below {base g n cap : Nat} {L : List (Int × Int)} {w w' : World} (h : RowP base g n cap L w) (hb : Below w.heap.size w w') : RowP base g n cap L w' := ⟨ownsRow_belowZ h.1 hb, h.2⟩
end Go.Proofs.Ytkkgipcidbgbhaa
