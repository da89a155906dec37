/- Contracts of liquidity's Check, lots, within and Decide. -/
import Derived.Test.YtkkgipcidbgbhaaNum
import Derived.Lib.Hide
namespace Go.Proofs.Ytkkgipcidbgbhaa
open Go.RowKit
set_option linter.unusedVariables false

theorem liqlots_any (n lot : Int) (w : World) (h0 : 0 ≤ n) (h1 : n ≤ 4000000000000000000) (h2 : 1 ≤ lot) (h3 : lot ≤ 1000000000000) :
    Calls Try.prog 70 #[.int .i64 n, .int .i64 lot] w fun e w' => e = .returned (.int .i64 ((n + lot - 1) / lot * lot)) ∧ w = w' := by
  have hd : 0 ≤ (n + lot - 1) / lot * lot := by
    have := Int.ediv_nonneg (a := n + lot - 1) (b := lot) (by omega) (by omega)
    exact Int.mul_nonneg this (by omega)
  have hd2 : (n + lot - 1) / lot * lot ≤ n + lot - 1 := Int.ediv_mul_le _ (by omega)
  go_enter Try.func70, Try.ntmps70
  go_wp2
  go_ret
  exact ⟨rfl, rfl⟩
theorem within_any (lo hi lot mr mp n : Int) (w : World) :
    Calls Try.prog 67 #[.agg #[.int .i64 lo, .int .i64 hi, .int .i64 lot, .int .i64 mr, .int .i64 mp], .int .i64 n] w fun e w' => e = .returned (.bool (inB n lo hi)) ∧ Below w.heap.size w w' := by
  go_enter Try.func67, Try.ntmps67
  go_wp2_with (go_at_call 69; refine (among30_any _ _ _ _).mono ?_; rintro e w' ⟨rfl, rfl⟩)
  go_ret
  exact ⟨rfl, (Below.refl _ _).alloc (Nat.le_refl _) _⟩

/-- a right band -/
def bandB (lo hi lot mr mp : Int) : Bool := inB lo (-1000000000000) hi && inB hi (-1000000000000) 1000000000000 && inB lot 1 1000000000000 && inB mr 0 1000000000000 && inB mp 0 1000000000000
/-- the error of a band -/
def bandE (lo hi lot mr mp : Int) : Int := if bandB lo hi lot mr mp then 0 else 73
theorem bandB_iff {lo hi lot mr mp : Int} : bandB lo hi lot mr mp = true ↔ -1000000000000 ≤ lo ∧ lo ≤ hi ∧ hi ≤ 1000000000000 ∧ 1 ≤ lot ∧ lot ≤ 1000000000000 ∧ 0 ≤ mr ∧ mr ≤ 1000000000000 ∧ 0 ≤ mp ∧ mp ≤ 1000000000000 := by
  simp [bandB, inB]; omega
theorem bandE_of {lo hi lot mr mp : Int} {b : Bool} (h : bandB lo hi lot mr mp = b) : bandE lo hi lot mr mp = if b then 0 else 73 := by unfold bandE; rw [h]
set_option maxHeartbeats 400000 in
theorem liqcheck_any (lo hi lot mr mp : Int) (w : World) :
    Calls Try.prog 19 #[.agg #[.int .i64 lo, .int .i64 hi, .int .i64 lot, .int .i64 mr, .int .i64 mp]] w fun e w' => e = .returned (.int .i64 (bandE lo hi lot mr mp)) ∧ Below w.heap.size w w' := by
  go_enter Try.func19, Try.ntmps19
  go_wp2_with (first | (go_at_call 69; refine (among30_any _ _ _ _).mono ?_; rintro e w' ⟨rfl, rfl⟩) | (go_at_call 44; refine (valid_any _ _).mono ?_; rintro e w' ⟨rfl, rfl⟩))
  all_goals
    go_ret
    refine ⟨ret_int ?_, (Below.refl _ _).alloc (Nat.le_refl _) _⟩
    simp only [bandE, bandB, inB, Bool.and_eq_true, decide_eq_true_eq, Bool.not_eq_true', Bool.not_eq_false', decide_eq_false_iff_not] at *
    first | rw [if_pos (by omega)] | rw [if_neg (by omega)]

/-- what is decided: raise, place, ok -/
def decR (lo hi lot mr mp n : Int) : Int := if bandB lo hi lot mr mp && inB n (-1000000000000000) 1000000000000000 then (if n < lo then (if (lo - n + lot - 1) / lot * lot ≤ mr ∧ n + (lo - n + lot - 1) / lot * lot ≤ hi then (lo - n + lot - 1) / lot * lot else 0) else 0) else 0
def decP (lo hi lot mr mp n : Int) : Int := if bandB lo hi lot mr mp && inB n (-1000000000000000) 1000000000000000 then (if hi < n then (if (n - hi + lot - 1) / lot * lot ≤ mp ∧ lo ≤ n - (n - hi + lot - 1) / lot * lot then (n - hi + lot - 1) / lot * lot else 0) else 0) else 0
def decO (lo hi lot mr mp n : Int) : Bool := bandB lo hi lot mr mp && inB n (-1000000000000000) 1000000000000000 &&
  (if n < lo then decide ((lo - n + lot - 1) / lot * lot ≤ mr ∧ n + (lo - n + lot - 1) / lot * lot ≤ hi) else if hi < n then decide ((n - hi + lot - 1) / lot * lot ≤ mp ∧ lo ≤ n - (n - hi + lot - 1) / lot * lot) else true)

theorem ceil_bd (d lot : Int) (h : 1 ≤ lot) : d ≤ (d + lot - 1) / lot * lot ∧ (d + lot - 1) / lot * lot ≤ d + lot - 1 := by
  have h1 := Int.ediv_mul_le (d + lot - 1) (b := lot) (by omega)
  have h2 := Int.lt_ediv_add_one_mul_self (d + lot - 1) (b := lot) (by omega)
  have h3 : ((d + lot - 1) / lot + 1) * lot = (d + lot - 1) / lot * lot + lot := by rw [Int.add_mul, Int.one_mul]
  omega

theorem dec_bad (lo hi lot mr mp n : Int) (h : (bandB lo hi lot mr mp && inB n (-1000000000000000) 1000000000000000) = false) : decR lo hi lot mr mp n = 0 ∧ decP lo hi lot mr mp n = 0 ∧ decO lo hi lot mr mp n = false := by
  simp [decR, decP, decO, h]
theorem dec_good (lo hi lot mr mp n : Int) (h : (bandB lo hi lot mr mp && inB n (-1000000000000000) 1000000000000000) = true) :
    decR lo hi lot mr mp n = (if n < lo then (if (lo - n + lot - 1) / lot * lot ≤ mr ∧ n + (lo - n + lot - 1) / lot * lot ≤ hi then (lo - n + lot - 1) / lot * lot else 0) else 0) ∧
    decP lo hi lot mr mp n = (if hi < n then (if (n - hi + lot - 1) / lot * lot ≤ mp ∧ lo ≤ n - (n - hi + lot - 1) / lot * lot then (n - hi + lot - 1) / lot * lot else 0) else 0) ∧
    decO lo hi lot mr mp n = (if n < lo then decide ((lo - n + lot - 1) / lot * lot ≤ mr ∧ n + (lo - n + lot - 1) / lot * lot ≤ hi) else if hi < n then decide ((n - hi + lot - 1) / lot * lot ≤ mp ∧ lo ≤ n - (n - hi + lot - 1) / lot * lot) else true) := by
  simp only [decR, decP, decO, h, if_true, Bool.true_and, and_self]

theorem ret_dec {a b a' b' : Int} {c c' : Bool} (h : a = a' ∧ b = b' ∧ c = c') : Ending.returned (.tuple #[.int .i64 a, .int .i64 b, .bool c]) = .returned (.tuple #[.int .i64 a', .int .i64 b', .bool c']) := by
  obtain ⟨rfl, rfl, rfl⟩ := h; rfl

set_option maxHeartbeats 1000000 in
theorem decide_any (lo hi lot mr mp n : Int) (w : World) :
    Calls Try.prog 22 #[.agg #[.int .i64 lo, .int .i64 hi, .int .i64 lot, .int .i64 mr, .int .i64 mp], .int .i64 n] w fun e w' => e = .returned (.tuple #[.int .i64 (decR lo hi lot mr mp n), .int .i64 (decP lo hi lot mr mp n), .bool (decO lo hi lot mr mp n)]) ∧ Below w.heap.size w w' := by
  by_cases hB : bandB lo hi lot mr mp = true
  · obtain ⟨a1, a2, a3, a4, a5, a6, a7, a8, a9⟩ := bandB_iff.1 hB
    by_cases hT : inB n (-1000000000000000) 1000000000000000 = true
    · obtain ⟨t1, t2⟩ := inB_iff.1 hT
      have G := Lib.hid (dec_good lo hi lot mr mp n (by rw [hB, hT]; rfl))
      have HB := Lib.hid hB
      have c1 := ceil_bd (lo - n) lot a4
      have c2 := ceil_bd (n - hi) lot a4
      clear hB
      go_enter Try.func22, Try.ntmps22
      go_wp2_with fail
      refine (liqcheck_any lo hi lot mr mp _).mono ?_
      rw [bandE_of HB.out]
      rintro e w1 ⟨rfl, hb⟩
      rw [if_pos rfl]
      obtain ⟨hc, hf⟩ := bcell hb
      have hz : w.heap.size < w1.heap.size := by have := hb.size; simp at this; omega
      have hbl : Below w.heap.size w w1 := ((Below.refl _ _).alloc (Nat.le_refl _) _).trans (hb.mono (by simp))
      go_wp2_with (first
        | (go_at_call 46; refine (total_any _ _).mono ?_; rw [hT]; rintro e w' ⟨rfl, rfl⟩)
        | (go_at_call 70; refine (liqlots_any _ _ _ (by omega) (by omega) (by omega) (by omega)).mono ?_; rintro e w' ⟨rfl, rfl⟩)
        | (go_at_call 67; refine (within_any _ _ _ _ _ _ _).mono ?_; rintro e w2 ⟨rfl, hb2⟩))
      all_goals
        go_ret3
        refine ⟨ret_dec ?_, by first | exact hbl | exact hbl.trans ((by assumption : Below w1.heap.size w1 _).mono (by omega))⟩
        obtain ⟨g1, g2, g3⟩ := G.out
        rw [g1, g2, g3]
        clear g1 g2 g3 G HB hb hbl hc hf
        simp only [inB, Bool.not_eq_true', Bool.not_eq_false', decide_eq_false_iff_not, decide_eq_true_eq] at *
        refine ⟨?_, ?_, ?_⟩ <;> (repeat' split) <;> first | omega | rfl | (rw [eq_comm, decide_eq_true_eq]; omega) | (rw [eq_comm, decide_eq_false_iff_not]; omega) | (exfalso; omega)
    · have hT' : inB n (-1000000000000000) 1000000000000000 = false := by simpa using hT
      obtain ⟨g1, g2, g3⟩ := dec_bad lo hi lot mr mp n (by rw [hB, hT']; rfl)
      rw [g1, g2, g3]
      clear g1 g2 g3
      have HB := Lib.hid hB
      clear hB
      go_enter Try.func22, Try.ntmps22
      go_wp2_with fail
      refine (liqcheck_any lo hi lot mr mp _).mono ?_
      rw [bandE_of HB.out]
      rintro e w1 ⟨rfl, hb⟩
      rw [if_pos rfl]
      have hbl : Below w.heap.size w w1 := ((Below.refl _ _).alloc (Nat.le_refl _) _).trans (hb.mono (by simp))
      go_wp2_with (go_at_call 46; refine (total_any _ _).mono ?_; rw [hT']; rintro e w' ⟨rfl, rfl⟩)
      go_ret3
      exact ⟨rfl, hbl⟩
  · have hB' : bandB lo hi lot mr mp = false := by simpa using hB
    obtain ⟨g1, g2, g3⟩ := dec_bad lo hi lot mr mp n (by rw [hB']; rfl)
    rw [g1, g2, g3]
    clear g1 g2 g3
    have HB := Lib.hid hB'
    clear hB hB'
    go_enter Try.func22, Try.ntmps22
    go_wp2_with fail
    refine (liqcheck_any lo hi lot mr mp _).mono ?_
    rw [bandE_of HB.out]
    rintro e w1 ⟨rfl, hb⟩
    rw [if_neg (by simp)]
    have hbl : Below w.heap.size w w1 := ((Below.refl _ _).alloc (Nat.le_refl _) _).trans (hb.mono (by simp))
    go_wp2
    go_ret3
    exact ⟨rfl, hbl⟩
end Go.Proofs.Ytkkgipcidbgbhaa
