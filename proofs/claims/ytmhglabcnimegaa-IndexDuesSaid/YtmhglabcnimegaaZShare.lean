/- Contracts of money's weight, checked, Share, Percent. -/
import Derived.Test.YtmhglabcnimegaaZRegP
import Derived.Lib.Hide
namespace Go.Proofs.Ytmhglabcnimegaa
open Go.RowKit
set_option linter.unusedVariables false

theorem ret_ab {a b a' b' : Int} (h : a = a' ∧ b = b') : Ending.returned (.tuple #[.int .i64 a, .int .i64 b]) = .returned (.tuple #[.int .i64 a', .int .i64 b']) := by
  obtain ⟨rfl, rfl⟩ := h; rfl
theorem weight_any (n : Int) (w : World) : Calls Try.prog 155 #[.int .i64 n] w fun e w' => e = .returned (.bool (inB n 0 1000000)) ∧ w = w' := by
  go_enter Try.func155, Try.ntmps155
  go_wp2
  all_goals (go_ret; exact ⟨ret_bool (by simp only [inB]; first | (rw [Bool.eq_iff_iff]; simp; omega) | (simp; omega)), rfl⟩)
/-- a number if it is an amount -/
def ckV (n : Int) : Int := if inB n 0 1000000000000 then n else 0
def ckE (n : Int) : Int := if inB n 0 1000000000000 then 0 else 2
theorem checked_any (n : Int) (w : World) : Calls Try.prog 156 #[.int .i64 n] w fun e w' => e = .returned (.tuple #[.int .i64 (ckV n), .int .i64 (ckE n)]) ∧ w = w' := by
  unfold ckV ckE
  cases h : inB n 0 1000000000000
  all_goals
    go_enter Try.func156, Try.ntmps156
    go_wp2_with (go_at_call 83; refine (valid_any _ _).mono ?_; rw [h]; rintro e w' ⟨rfl, rfl⟩)
    go_ret2
    exact ⟨rfl, rfl⟩
/-- a share -/
def shOk (a n d : Int) : Bool := inB a 0 1000000000000 && inB n 0 1000000 && inB d 0 1000000 && d != 0
def shV (a n d : Int) : Int := if shOk a n d then ckV ((2 * a * n + d) / (2 * d)) else 0
def shE (a n d : Int) : Int := if shOk a n d then ckE ((2 * a * n + d) / (2 * d)) else 2
theorem shOk_iff {a n d : Int} : shOk a n d = true ↔ (0 ≤ a ∧ a ≤ 1000000000000) ∧ (0 ≤ n ∧ n ≤ 1000000) ∧ (1 ≤ d ∧ d ≤ 1000000) := by
  simp only [shOk, Bool.and_eq_true, inB_iff, bne_iff_ne, ne_eq]
  omega
set_option maxHeartbeats 400000 in
theorem share_any (a n d : Int) (w : World) : Calls Try.prog 126 #[.int .i64 a, .int .i64 n, .int .i64 d] w fun e w' => e = .returned (.tuple #[.int .i64 (shV a n d), .int .i64 (shE a n d)]) ∧ w = w' := by
  unfold shV shE
  cases h : shOk a n d
  · cases h1 : inB a 0 1000000000000
    · simp only [Bool.false_eq_true, if_false]
      clear h
      go_enter Try.func126, Try.ntmps126
      go_wp2_with (go_at_call 83; refine (valid_any _ _).mono ?_; rw [h1]; rintro e w' ⟨rfl, rfl⟩)
      go_ret2
      exact ⟨rfl, rfl⟩
    cases h2 : inB n 0 1000000
    · simp only [Bool.false_eq_true, if_false]
      clear h
      go_enter Try.func126, Try.ntmps126
      go_wp2_with (first | (go_at_call 83; refine (valid_any _ _).mono ?_; rw [h1]; rintro e w' ⟨rfl, rfl⟩) | (go_at_call 155; refine (weight_any _ _).mono ?_; rintro e w' ⟨rfl, rfl⟩))
      go_ret2
      exact ⟨rfl, rfl⟩
    cases h3 : inB d 0 1000000
    · simp only [Bool.false_eq_true, if_false]
      clear h
      go_enter Try.func126, Try.ntmps126
      go_wp2_with (first | (go_at_call 83; refine (valid_any _ _).mono ?_; rw [h1]; rintro e w' ⟨rfl, rfl⟩) | (go_at_call 155; refine (weight_any _ _).mono ?_; rintro e w' ⟨rfl, rfl⟩))
      go_ret2
      exact ⟨rfl, rfl⟩
    have h4 : (d == 0) = true := by
      simpa [shOk, h1, h2, h3] using h
    simp only [Bool.false_eq_true, if_false]
    clear h
    go_enter Try.func126, Try.ntmps126
    go_wp2_with (first | (go_at_call 83; refine (valid_any _ _).mono ?_; rw [h1]; rintro e w' ⟨rfl, rfl⟩) | (go_at_call 155; refine (weight_any _ _).mono ?_; rintro e w' ⟨rfl, rfl⟩))
    go_ret2
    exact ⟨rfl, rfl⟩
  · obtain ⟨⟨a0, a1⟩, ⟨n0, n1⟩, d0, d1⟩ := shOk_iff.1 h
    have h1 := inB_iff.2 ⟨a0, a1⟩
    have h2 := inB_iff.2 ⟨n0, n1⟩
    have h3 := inB_iff.2 ⟨show 0 ≤ d by omega, d1⟩
    have h4 : (d == 0) = false := by simp; omega
    obtain ⟨p0, p1⟩ := mul_bd (show 0 ≤ 2 * a by omega) (show 2 * a ≤ 2000000000000 by omega) n0 n1
    have q0 : 0 ≤ (2 * a * n + d) / (2 * d) := Int.ediv_nonneg (by omega) (by omega)
    have q1 : (2 * a * n + d) / (2 * d) ≤ 2 * a * n + d := Int.ediv_le_self _ (by omega)
    simp only [if_true]
    clear h
    go_enter Try.func126, Try.ntmps126
    go_wp2_with (first | (go_at_call 83; refine (valid_any _ _).mono ?_; rw [h1]; rintro e w' ⟨rfl, rfl⟩) | (go_at_call 155; refine (weight_any _ _).mono ?_; rintro e w' ⟨rfl, rfl⟩) | (go_at_call 156; refine (checked_any _ _).mono ?_; rintro e w' ⟨rfl, rfl⟩))
    go_ret2
    exact ⟨rfl, rfl⟩
end Go.Proofs.Ytmhglabcnimegaa
