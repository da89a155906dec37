/- the reference's register: set, in plain lists. -/
import Derived.Test.YthjaofgdickkaaaGreatRefB
namespace Go.Proofs.YthjaofgdickkaaaGreat
open Go.RowKit
set_option linter.unusedVariables false
set_option linter.unusedSimpArgs false
def gtK (x : Hold) (s h : Int) : Bool := decide (s < x.s ∨ (x.s = s ∧ h < x.h))
/-- set's loop -/
def setL : List Hold → Bool → Int → Int → Int → List Hold
  | [], put, s, h, n => if put then [] else [⟨s, h, n⟩]
  | x :: L, put, s, h, n => if eqK x s h then setL L put s h n else if put then x :: setL L true s h n else if gtK x s h then ⟨s, h, n⟩ :: x :: setL L true s h n else x :: setL L false s h n
theorem setL_true {s h n : Int} : ∀ {L : List Hold}, (∀ y ∈ L, eqK y s h = false) → setL L true s h n = L
  | [], _ => rfl
  | x :: L, hq => by
    simp only [setL]
    rw [hq x (List.mem_cons_self ..), setL_true (fun y hy => hq y (List.mem_cons_of_mem _ hy))]
    rfl
theorem heldH_none {s h : Int} : ∀ {L : List Hold}, (∀ y ∈ L, eqK y s h = false) → heldH L s h = 0
  | [], _ => rfl
  | x :: L, hq => by
    simp only [heldH]
    rw [hq x (List.mem_cons_self ..), heldH_none (fun y hy => hq y (List.mem_cons_of_mem _ hy))]
    rfl
theorem above_no {x : Hold} {L : List Hold} {s h : Int} (hs : srtH (x :: L)) (hx : eqK x s h = true ∨ gtK x s h = true) : ∀ y ∈ L, eqK y s h = false ∧ gtK y s h = true := by
  intro y hy
  have h1 := srtH_head hs y hy
  simp only [eqK, gtK, decide_eq_true_eq, decide_eq_false_iff_not] at hx ⊢
  omega
theorem setL_eq : ∀ {L : List Hold} {s h by' N : Int}, srtH L → N = heldH L s h + by' → setL L (decide (N = 0)) s h N = addH L s h by'
  | [], s, h, b, N, _, hN => by
    simp only [heldH, Int.zero_add] at hN
    subst hN
    simp [setL, addH]
  | x :: L, s, h, b, N, hs, hN => by
    simp only [setL, addH]
    simp only [heldH] at hN
    cases hl : ltK x s h
    · cases he : eqK x s h
      · have hg : gtK x s h = true := by
          simp only [ltK, eqK, gtK, decide_eq_true_eq, decide_eq_false_iff_not] at hl he ⊢
          omega
        have hab := above_no hs (.inr hg)
        rw [he, heldH_none (fun y hy => (hab y hy).1)] at hN
        simp only [Bool.false_eq_true, if_false, Int.zero_add] at hN ⊢
        subst hN
        rw [hg, setL_true (fun y hy => (hab y hy).1)]
        by_cases hz : N = 0 <;> simp [hz]
      · have hab := above_no hs (.inl he)
        rw [he] at hN
        simp only [if_true] at hN
        subst hN
        simp only [if_true, Bool.false_eq_true, if_false]
        by_cases hz : x.a + b = 0
        · rw [decide_eq_true hz, if_pos hz, setL_true (fun y hy => (hab y hy).1)]
        · rw [decide_eq_false hz, if_neg hz]
          cases L with
          | nil => rfl
          | cons y L =>
            simp only [setL]
            rw [(hab y (List.mem_cons_self ..)).1, (hab y (List.mem_cons_self ..)).2, setL_true (fun z hz => (hab z (List.mem_cons_of_mem _ hz)).1)]
            simp
    · have he : eqK x s h = false := by
        simp only [ltK, eqK, decide_eq_true_eq, decide_eq_false_iff_not] at hl ⊢
        omega
      have hg : gtK x s h = false := by
        simp only [ltK, gtK, decide_eq_true_eq, decide_eq_false_iff_not] at hl ⊢
        omega
      rw [he] at hN
      simp only [Bool.false_eq_true, if_false] at hN
      have ih := setL_eq (srtH_tail hs) hN
      rw [he, hg, if_pos rfl, ← ih]
      by_cases hz : N = 0
      · simp [hz]
      · simp [hz]
theorem newsHold (w : World) (x : Hold) : ∀ j u, (encHold x)[j]? = some u → (w.alloc (.cells #[.int .i64 x.s, .int .i64 x.h, .int .i64 x.a] 171 (0, 0))).cell? ((⟨w.heap.size, 0, none⟩ : Addr).add j) = some u := by
  intro j u hj
  rw [add_litZ, Nat.zero_add]
  exact cell_whole (heap_alloc_new w _) hj
end Go.Proofs.YthjaofgdickkaaaGreat
