/- Contracts of auction.Pay, reopening.Given, reopening.Cost. -/
import Derived.Test.YtkbkohkhpmpddaaAcc
import Derived.Test.YtkbkohkhpmpddaaShare
import Derived.Deep.QuietTactic
import Derived.BigQuiet
import Derived.WalkSmall
namespace Go.Proofs.Ytkbkohkhpmpddaa
open Go.RowKit
set_option linter.unusedVariables false

theorem amongA_any (n lo hi : Int) (w : World) : Calls Try.prog 72 #[.int .i64 n, .int .i64 lo, .int .i64 hi] w fun e w' => e = .returned (.bool (inB n lo hi)) ∧ w = w' := by
  go_enter Try.func72, Try.ntmps72
  go_wp2
  all_goals (go_ret; exact ⟨ret_bool (by simp only [inB]; first | (rw [Bool.eq_iff_iff]; simp; omega) | (simp; omega)), rfl⟩)
theorem amongO_any (n lo hi : Int) (w : World) : Calls Try.prog 73 #[.int .i64 n, .int .i64 lo, .int .i64 hi] w fun e w' => e = .returned (.bool (inB n lo hi)) ∧ w = w' := by
  go_enter Try.func73, Try.ntmps73
  go_wp2
  all_goals (go_ret; exact ⟨ret_bool (by simp only [inB]; first | (rw [Bool.eq_iff_iff]; simp; omega) | (simp; omega)), rfl⟩)
def pyOk (n p : Int) : Bool := inB n 0 1000000000000 && inB p 0 200000
def pyV (n p : Int) : Int := if pyOk n p then ckV ((n * p + 50000) / 100000) else 0
def pyE (n p : Int) : Int := if pyOk n p then ckE ((n * p + 50000) / 100000) else 2
theorem pyOk_iff {n p : Int} : pyOk n p = true ↔ (0 ≤ n ∧ n ≤ 1000000000000) ∧ 0 ≤ p ∧ p ≤ 200000 := by
  simp only [pyOk, Bool.and_eq_true, inB_iff]
theorem pay_any (n p : Int) (w : World) : Calls Try.prog 59 #[.int .i64 n, .int .i64 p] w fun e w' => e = .returned (.tuple #[.int .i64 (pyV n p), .int .i64 (pyE n p)]) ∧ w = w' := by
  unfold pyV pyE
  cases h : pyOk n p
  · simp only [Bool.false_eq_true, if_false]
    cases h1 : inB n 0 1000000000000
    · clear h
      go_enter Try.func59, Try.ntmps59
      go_wp2_with (go_at_call 45; refine (valid_any _ _).mono ?_; rw [h1]; rintro e w' ⟨rfl, rfl⟩)
      go_ret2
      exact ⟨rfl, rfl⟩
    have h2 : inB p 0 200000 = false := by simpa [pyOk, h1] using h
    clear h
    go_enter Try.func59, Try.ntmps59
    go_wp2_with (first | (go_at_call 45; refine (valid_any _ _).mono ?_; rw [h1]; rintro e w' ⟨rfl, rfl⟩) | (go_at_call 72; refine (amongA_any _ _ _ _).mono ?_; rw [h2]; rintro e w' ⟨rfl, rfl⟩))
    go_ret2
    exact ⟨rfl, rfl⟩
  · obtain ⟨⟨a0, a1⟩, p0, p1⟩ := pyOk_iff.1 h
    have h1 := inB_iff.2 ⟨a0, a1⟩
    have h2 := inB_iff.2 ⟨p0, p1⟩
    obtain ⟨q0, q1⟩ := mul_bd a0 a1 p0 p1
    simp only [if_true]
    unfold ckV ckE
    clear h
    cases h3 : inB ((n * p + 50000) / 100000) 0 1000000000000
    all_goals
      go_enter Try.func59, Try.ntmps59
      go_wp2_with fail
      refine (valid_any _ _).mono ?_
      rw [h1]
      rintro e w' ⟨rfl, rfl⟩
      go_wp2_with fail
      refine (amongA_any _ _ _ _).mono ?_
      rw [h2]
      rintro e w' ⟨rfl, rfl⟩
      go_wp2_with fail
      refine (valid_any _ _).mono ?_
      rw [h3]
      rintro e w' ⟨rfl, rfl⟩
      go_wp2
      go_ret2
      exact ⟨rfl, rfl⟩

/-- what a switch gives -/
theorem ratioS_any (old new num den : Int) (w : World) : Calls Try.prog 74 #[.agg #[.int .i64 old, .int .i64 new, .int .i64 num, .int .i64 den]] w fun e w' => e = .returned (.bool (inB num 1 1000000 && inB den 1 1000000)) ∧ Below w.heap.size w w' := by
  cases h1 : inB num 1 1000000 <;> cases h2 : inB den 1 1000000
  all_goals
    go_enter Try.func74, Try.ntmps74
    go_wp2_with (go_at_call 73; refine (amongO_any _ _ _ _).mono ?_; rintro e w' ⟨rfl, rfl⟩)
    go_ret
    exact ⟨rfl, (Below.refl _ _).alloc (Nat.le_refl _) _⟩
def gvOk (num den unit a : Int) : Bool := inB a 0 1000000000000 && inB unit 1 1000000000 && (inB num 1 1000000 && inB den 1 1000000) && inB (a * num / den) 0 1000000000000
def gvA (num den unit a : Int) : Int := if gvOk num den unit a then a * num / den - a * num / den % unit else 0
def gvB (num den unit a : Int) : Int := if gvOk num den unit a then a * num / den % unit else 0
set_option maxHeartbeats 1000000 in
theorem given_any (old new num den unit a : Int) (w : World) : Calls Try.prog 60 #[.agg #[.int .i64 old, .int .i64 new, .int .i64 num, .int .i64 den], .int .i64 unit, .int .i64 a] w fun e w' => e = .returned (.tuple #[.int .i64 (gvA num den unit a), .int .i64 (gvB num den unit a)]) ∧ Below w.heap.size w w' := by
  unfold gvA gvB
  cases h1 : inB a 0 1000000000000
  · rw [if_neg (by simp [gvOk, h1]), if_neg (by simp [gvOk, h1])]
    go_enter Try.func60, Try.ntmps60
    go_wp2_with fail
    refine (valid_any _ _).mono ?_
    rw [h1]
    rintro e w' ⟨rfl, rfl⟩
    go_wp2
    go_ret2
    exact ⟨rfl, (Below.refl _ _).alloc (Nat.le_refl _) _⟩
  cases h2 : inB unit 1 1000000000
  · rw [if_neg (by simp [gvOk, h1, h2]), if_neg (by simp [gvOk, h1, h2])]
    go_enter Try.func60, Try.ntmps60
    go_wp2_with fail
    refine (valid_any _ _).mono ?_
    rw [h1]
    rintro e w' ⟨rfl, rfl⟩
    go_wp2_with fail
    refine (amongO_any _ _ _ _).mono ?_
    rw [h2]
    rintro e w' ⟨rfl, rfl⟩
    go_wp2
    go_ret2
    exact ⟨rfl, (Below.refl _ _).alloc (Nat.le_refl _) _⟩
  cases h3 : (inB num 1 1000000 && inB den 1 1000000)
  · rw [if_neg (by simp [gvOk, h3]), if_neg (by simp [gvOk, h3])]
    go_enter Try.func60, Try.ntmps60
    go_wp2_with fail
    refine (valid_any _ _).mono ?_
    rw [h1]
    rintro e w' ⟨rfl, rfl⟩
    go_wp2_with fail
    refine (amongO_any _ _ _ _).mono ?_
    rw [h2]
    rintro e w' ⟨rfl, rfl⟩
    go_wp2_with fail
    refine (ratioS_any _ _ _ _ _).mono ?_
    rw [h3]
    rintro e w1 ⟨rfl, hb⟩
    have hB := below_box hb
    go_wp2
    go_ret2
    exact ⟨rfl, hB⟩
  obtain ⟨a0, a1⟩ := inB_iff.1 h1
  obtain ⟨u0, u1⟩ := inB_iff.1 h2
  have h3' := h3
  rw [Bool.and_eq_true, inB_iff, inB_iff] at h3'
  obtain ⟨⟨n0, n1⟩, d0, d1⟩ := h3'
  obtain ⟨q0, q1⟩ := mul_bd a0 a1 (show 0 ≤ num by omega) n1
  have r0 : 0 ≤ a * num / den := Int.ediv_nonneg q0 (by omega)
  have r1 : a * num / den ≤ a * num := Int.ediv_le_self _ q0
  have H3 := Lib.hid h3
  clear h3
  cases h4 : inB (a * num / den) 0 1000000000000
  · rw [if_neg (by simp [gvOk, h4]), if_neg (by simp [gvOk, h4])]
    go_enter Try.func60, Try.ntmps60
    go_wp2_with fail
    refine (valid_any _ _).mono ?_
    rw [h1]
    rintro e w' ⟨rfl, rfl⟩
    go_wp2_with fail
    refine (amongO_any _ _ _ _).mono ?_
    rw [h2]
    rintro e w' ⟨rfl, rfl⟩
    go_wp2_with fail
    refine (ratioS_any _ _ _ _ _).mono ?_
    rw [H3.out]
    rintro e w1 ⟨rfl, hb⟩
    obtain ⟨hc, hf⟩ := bcell hb
    have hz : w.heap.size < w1.heap.size := by have := hb.size; simp at this; omega
    have hB := below_box hb
    go_wp2_with fail
    refine (valid_any _ _).mono ?_
    rw [h4]
    rintro e w' ⟨rfl, rfl⟩
    go_wp2
    go_ret2
    exact ⟨rfl, hB⟩
  · rw [if_pos (by simp [gvOk, h1, h2, H3.out, h4]), if_pos (by simp [gvOk, h1, h2, H3.out, h4])]
    have s0 : 0 ≤ a * num / den % unit := Int.emod_nonneg _ (by omega)
    have s1 : a * num / den % unit < unit := Int.emod_lt_of_pos _ (by omega)
    have m0 : IntKind.i64.wrap (a * num / den - a * num / den % unit) = a * num / den - a * num / den % unit := IntWalk.i64_in _ (by omega)
    have m1 : (a * num / den).tmod unit = a * num / den % unit := Int.tmod_eq_emod_of_nonneg r0
    have m2 : IntKind.i64.wrap (a * num / den % unit) = a * num / den % unit := IntWalk.i64_in _ (by omega)
    go_enter Try.func60, Try.ntmps60
    go_wp2_with fail
    refine (valid_any _ _).mono ?_
    rw [h1]
    rintro e w' ⟨rfl, rfl⟩
    go_wp2_with fail
    refine (amongO_any _ _ _ _).mono ?_
    rw [h2]
    rintro e w' ⟨rfl, rfl⟩
    go_wp2_with fail
    refine (ratioS_any _ _ _ _ _).mono ?_
    rw [H3.out]
    rintro e w1 ⟨rfl, hb⟩
    obtain ⟨hc, hf⟩ := bcell hb
    have hz : w.heap.size < w1.heap.size := by have := hb.size; simp at this; omega
    have hB := below_box hb
    go_wp2_with fail
    refine (valid_any _ _).mono ?_
    rw [h4]
    rintro e w' ⟨rfl, rfl⟩
    go_wp2_with fail
    go_quiet (fail)
    go_wp2
    go_ret2
    exact ⟨ret_ab ⟨by first | rfl | omega, by first | rfl | omega⟩, below_drewN hB _⟩
end Go.Proofs.Ytkbkohkhpmpddaa
