/- The reference of layer 30: Check, Decide. -/
import Derived.Test.YtkkgipcidbgbhaaLqF
import Derived.Test.YtkkgipcidbgbhaaL30Base
namespace Go.Proofs.Ytkkgipcidbgbhaa
open Go.RowKit
set_option linter.unusedVariables false
set_option linter.unusedSimpArgs false
set_option maxHeartbeats 1000000 in
theorem r30check_any (lo hi lot mr mp : Int) (w : World) :
    Calls Try.prog 20 #[.agg #[.int .i64 lo, .int .i64 hi, .int .i64 lot, .int .i64 mr, .int .i64 mp]] w fun e w' => e = .returned (.int .i64 (bandE lo hi lot mr mp)) ∧ Below w.heap.size w w' := by
  go_enter Try.func20, Try.ntmps20
  go_wp2_with ((go_at_call 45; refine (r01valid_any _ _).mono ?_; rintro e w' ⟨rfl, rfl⟩))
  all_goals
    go_ret
    refine ⟨ret_int ?_, bal brefl _⟩
    simp only [bandE, bandB, inB, Bool.and_eq_true, decide_eq_true_eq, Bool.not_eq_true', Bool.not_eq_false', decide_eq_false_iff_not] at *
    first | rw [if_pos (by omega)] | rw [if_neg (by omega)]
set_option maxHeartbeats 1000000 in
theorem r30decide_any (lo hi lot mr mp n : Int) (w : World) :
    Calls Try.prog 13 #[.agg #[.int .i64 lo, .int .i64 hi, .int .i64 lot, .int .i64 mr, .int .i64 mp], .int .i64 n] w fun e w' => e = .returned (.tuple #[.int .i64 (decR lo hi lot mr mp n), .int .i64 (decP lo hi lot mr mp n), .bool (decO lo hi lot mr mp n)]) ∧ Below w.heap.size w w' := by
  cases hB : bandB lo hi lot mr mp
  case false =>
    obtain ⟨g1, g2, g3⟩ := dec_bad lo hi lot mr mp n (by rw [hB]; rfl)
    rw [g1, g2, g3]
    have HB := Lib.hid hB
    clear hB g1 g2 g3
    go_enter Try.func13, Try.ntmps13
    go_wp2_with fail
    refine (r30check_any lo hi lot mr mp _).mono ?_
    rw [bandE_of HB.out]
    rintro e w1 ⟨rfl, hb⟩
    rw [if_neg (by simp)]
    have hbl := below_box hb
    go_wp2
    go_ret3
    exact ⟨rfl, hbl⟩
  cases hT : inB n (-1000000000000000) 1000000000000000
  case false =>
    obtain ⟨g1, g2, g3⟩ := dec_bad lo hi lot mr mp n (by rw [hB, hT]; rfl)
    rw [g1, g2, g3]
    have HB := Lib.hid hB
    clear hB g1 g2 g3
    go_enter Try.func13, Try.ntmps13
    go_wp2_with fail
    refine (r30check_any lo hi lot mr mp _).mono ?_
    rw [bandE_of HB.out]
    rintro e w1 ⟨rfl, hb⟩
    rw [if_pos rfl]
    have hbl := below_box hb
    go_wp2_with ((go_at_call 47; refine (r01total_any _ _).mono ?_; rw [hT]; rintro e w' ⟨rfl, rfl⟩))
    go_ret3
    exact ⟨rfl, hbl⟩
  obtain ⟨a1, a2, a3, a4, a5, a6, a7, a8, a9⟩ := bandB_iff.1 hB
  obtain ⟨t1, t2⟩ := inB_iff.1 hT
  obtain ⟨G1, G2, G3⟩ := dec_good lo hi lot mr mp n (by rw [hB, hT]; rfl)
  have c1 := ceil_bd (lo - n) lot a4
  have c2 := ceil_bd (n - hi) lot a4
  have HB := Lib.hid hB
  clear hB
  by_cases hlt : n < lo
  · have hnh : ¬ hi < n := by omega
    rw [G1, G2, G3, if_pos hlt, if_neg hnh, if_pos hlt]
    clear G1 G2 G3 c2
    obtain ⟨x, hx⟩ : ∃ x, (lo - n + lot - 1) / lot * lot = x := ⟨_, rfl⟩
    rw [hx] at c1 ⊢
    by_cases hk : x ≤ mr ∧ n + x ≤ hi
    · obtain ⟨k1, k2⟩ := hk
      rw [if_pos ⟨k1, k2⟩, decide_eq_true ⟨k1, k2⟩]
      go_enter Try.func13, Try.ntmps13
      go_wp2_with fail
      refine (r30check_any lo hi lot mr mp _).mono ?_
      rw [bandE_of HB.out]
      rintro e w1 ⟨rfl, hb⟩
      rw [if_pos rfl]
      obtain ⟨hc, hf⟩ := bcell hb
      have hz : w.heap.size < w1.heap.size := by have := hb.size; simp at this; omega
      have hbl := below_box hb
      go_wp2_with ((go_at_call 47; refine (r01total_any _ _).mono ?_; rw [hT]; rintro e w' ⟨rfl, rfl⟩))
      go_quiet (fail)
      go_wp2
      go_ret3
      exact ⟨rfl, below_drewZ hbl _⟩
    · have hk' : x ≤ mr → ¬ n + x ≤ hi := fun h h' => hk ⟨h, h'⟩
      rw [if_neg hk, decide_eq_false hk]
      clear hk
      by_cases k1 : x ≤ mr
      · have k2 := hk' k1
        clear hk'
        go_enter Try.func13, Try.ntmps13
        go_wp2_with fail
        refine (r30check_any lo hi lot mr mp _).mono ?_
        rw [bandE_of HB.out]
        rintro e w1 ⟨rfl, hb⟩
        rw [if_pos rfl]
        obtain ⟨hc, hf⟩ := bcell hb
        have hz : w.heap.size < w1.heap.size := by have := hb.size; simp at this; omega
        have hbl := below_box hb
        go_wp2_with ((go_at_call 47; refine (r01total_any _ _).mono ?_; rw [hT]; rintro e w' ⟨rfl, rfl⟩))
        go_quiet (fail)
        go_wp2
        go_ret3
        exact ⟨rfl, below_drewZ hbl _⟩
      · clear hk'
        go_enter Try.func13, Try.ntmps13
        go_wp2_with fail
        refine (r30check_any lo hi lot mr mp _).mono ?_
        rw [bandE_of HB.out]
        rintro e w1 ⟨rfl, hb⟩
        rw [if_pos rfl]
        obtain ⟨hc, hf⟩ := bcell hb
        have hz : w.heap.size < w1.heap.size := by have := hb.size; simp at this; omega
        have hbl := below_box hb
        go_wp2_with ((go_at_call 47; refine (r01total_any _ _).mono ?_; rw [hT]; rintro e w' ⟨rfl, rfl⟩))
        go_quiet (fail)
        go_wp2
        go_ret3
        exact ⟨rfl, below_drewZ hbl _⟩
  · by_cases hgt : hi < n
    · rw [G1, G2, G3, if_neg hlt, if_pos hgt, if_neg hlt, if_pos hgt]
      clear G1 G2 G3 c1
      obtain ⟨x, hx⟩ : ∃ x, (n - hi + lot - 1) / lot * lot = x := ⟨_, rfl⟩
      rw [hx] at c2 ⊢
      by_cases k1 : x ≤ mp
      · by_cases k2 : lo ≤ n - x
        · rw [if_pos ⟨k1, k2⟩, decide_eq_true ⟨k1, k2⟩]
          go_enter Try.func13, Try.ntmps13
          go_wp2_with fail
          refine (r30check_any lo hi lot mr mp _).mono ?_
          rw [bandE_of HB.out]
          rintro e w1 ⟨rfl, hb⟩
          rw [if_pos rfl]
          obtain ⟨hc, hf⟩ := bcell hb
          have hz : w.heap.size < w1.heap.size := by have := hb.size; simp at this; omega
          have hbl := below_box hb
          go_wp2_with ((go_at_call 47; refine (r01total_any _ _).mono ?_; rw [hT]; rintro e w' ⟨rfl, rfl⟩))
          go_quiet (fail)
          go_wp2
          go_ret3
          exact ⟨rfl, below_drewZ hbl _⟩
        · rw [if_neg (fun h => k2 h.2), decide_eq_false (fun h => k2 h.2)]
          go_enter Try.func13, Try.ntmps13
          go_wp2_with fail
          refine (r30check_any lo hi lot mr mp _).mono ?_
          rw [bandE_of HB.out]
          rintro e w1 ⟨rfl, hb⟩
          rw [if_pos rfl]
          obtain ⟨hc, hf⟩ := bcell hb
          have hz : w.heap.size < w1.heap.size := by have := hb.size; simp at this; omega
          have hbl := below_box hb
          go_wp2_with ((go_at_call 47; refine (r01total_any _ _).mono ?_; rw [hT]; rintro e w' ⟨rfl, rfl⟩))
          go_quiet (fail)
          go_wp2
          go_ret3
          exact ⟨rfl, below_drewZ hbl _⟩
      · rw [if_neg (fun h => k1 h.1), decide_eq_false (fun h => k1 h.1)]
        go_enter Try.func13, Try.ntmps13
        go_wp2_with fail
        refine (r30check_any lo hi lot mr mp _).mono ?_
        rw [bandE_of HB.out]
        rintro e w1 ⟨rfl, hb⟩
        rw [if_pos rfl]
        obtain ⟨hc, hf⟩ := bcell hb
        have hz : w.heap.size < w1.heap.size := by have := hb.size; simp at this; omega
        have hbl := below_box hb
        go_wp2_with ((go_at_call 47; refine (r01total_any _ _).mono ?_; rw [hT]; rintro e w' ⟨rfl, rfl⟩))
        go_quiet (fail)
        go_wp2
        go_ret3
        exact ⟨rfl, below_drewZ hbl _⟩
    · rw [G1, G2, G3, if_neg hlt, if_neg hgt, if_neg hlt, if_neg hgt]
      clear G1 G2 G3 c1 c2
      go_enter Try.func13, Try.ntmps13
      go_wp2_with fail
      refine (r30check_any lo hi lot mr mp _).mono ?_
      rw [bandE_of HB.out]
      rintro e w1 ⟨rfl, hb⟩
      rw [if_pos rfl]
      obtain ⟨hc, hf⟩ := bcell hb
      have hz : w.heap.size < w1.heap.size := by have := hb.size; simp at this; omega
      have hbl := below_box hb
      go_wp2_with ((go_at_call 47; refine (r01total_any _ _).mono ?_; rw [hT]; rintro e w' ⟨rfl, rfl⟩))
      go_ret3
      exact ⟨rfl, hbl⟩
end Go.Proofs.Ytkkgipcidbgbhaa
