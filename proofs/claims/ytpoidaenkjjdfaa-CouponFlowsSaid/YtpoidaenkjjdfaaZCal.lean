/- treasury/calendar: Valid, Business, Next. -/
import Derived.Test.YtpoidaenkjjdfaaZRegP
import Derived.Lib.Hide
namespace Go.Proofs.Ytpoidaenkjjdfaa
open Go.RowKit
set_option linter.unusedVariables false
set_option linter.unusedSimpArgs false
theorem calvalid_any (n : Int) (w : World) : Calls Try.prog 115 #[.int .i64 n] w fun e w' => e = .returned (.bool (inB n 0 36000)) ∧ w = w' := by
  go_enter Try.func115, Try.ntmps115
  go_wp2
  all_goals (go_ret; exact ⟨ret_bool (by simp only [inB]; first | (rw [Bool.eq_iff_iff]; simp; omega) | (simp; omega)), rfl⟩)
/-- a business day -/
def bizB (n : Int) : Bool := decide (n % 7 < 5)
theorem business_any (n : Int) (w : World) (h0 : 0 ≤ n) (h1 : n ≤ 36000) : Calls Try.prog 151 #[.int .i64 n] w fun e w' => e = .returned (.bool (bizB n)) ∧ w = w' := by
  have hv : inB n 0 36000 = true := inB_iff.2 ⟨h0, h1⟩
  obtain ⟨b, hb⟩ : ∃ b, bizB n = b := ⟨_, rfl⟩
  have HB := Lib.hid hb
  rw [hb]
  unfold bizB at hb
  have hc := calvalid_any n w
  rw [hv] at hc
  go_enter Try.func151, Try.ntmps151
  go_wp2_with fail
  refine hc.mono ?_
  rintro e w' ⟨rfl, rfl⟩
  go_wp2
  go_ret
  exact ⟨rfl, rfl⟩
/-- the first business day at or after a day -/
def nxD (d : Int) : Int := if d % 7 = 5 then d + 2 else if d % 7 = 6 then d + 1 else d
theorem nxD_bd (d : Int) : d ≤ nxD d ∧ nxD d ≤ d + 2 ∧ nxD d % 7 < 5 := by
  unfold nxD
  split
  · omega
  · split <;> omega
theorem next_any (day : Int) (w : World) (h0 : 0 ≤ day) (h1 : day ≤ 35990) : Calls Try.prog 119 #[.int .i64 day] w fun e w' => e = .returned (.tuple #[.int .i64 (nxD day), .int .i64 0]) ∧ w = w' := by
  obtain ⟨N, hN⟩ : ∃ N, nxD day = N := ⟨_, rfl⟩
  have hbd := nxD_bd day
  have HN := Lib.hid hN
  rw [hN] at hbd ⊢
  have hmin : ∀ d, day ≤ d → d ≤ N → d % 7 < 5 → d = N := by
    intro d a b c
    rw [← hN] at b ⊢
    unfold nxD at b ⊢
    split at b
    · rename_i h; rw [if_pos h]; omega
    · rename_i h; rw [if_neg h]
      split at b
      · rename_i h'; rw [if_pos h']; omega
      · rename_i h'; rw [if_neg h']; omega
  have HM := Lib.hid hmin
  clear hmin hN
  obtain ⟨b1, b2, b3⟩ := hbd
  go_enter Try.func119, Try.ntmps119
  go_wp2
  go_loopw [0] (fun dv wr => ∃ d : Int, dv = .int .i64 d ∧ day ≤ d ∧ d ≤ N ∧ wr = w) (fun dv _ => (N - intOf dv).toNat)
  case atStart => exact ⟨day, rfl, by omega, by omega, rfl⟩
  case round =>
    obtain ⟨d, rfl, d1, d2, hw⟩ := hrel
    have hv : inB d 0 36000 = true := inB_iff.2 ⟨by omega, by omega⟩
    have hc := calvalid_any d w
    rw [hv] at hc
    have hb := business_any d w (by omega) (by omega)
    by_cases hq : d % 7 < 5
    · obtain rfl := HM.out d d1 d2 hq
      rw [show bizB d = true by unfold bizB; simpa using hq] at hb
      go_wp2_with fail
      refine hc.mono ?_
      rintro e w1 ⟨rfl, rfl⟩
      go_wp2_with fail
      refine hb.mono ?_
      rintro e w1 ⟨rfl, rfl⟩
      go_wp2
      go_ret2
      exact ⟨rfl, rfl⟩
    · rw [show bizB d = false by unfold bizB; simpa using hq] at hb
      have hlt : d < N := by rcases Int.lt_or_eq_of_le d2 with h | h
                             · exact h
                             · subst h; omega
      go_wp2_with fail
      refine hc.mono ?_
      rintro e w1 ⟨rfl, rfl⟩
      go_wp2_with fail
      refine hb.mono ?_
      rintro e w1 ⟨rfl, rfl⟩
      go_wp2
      go_roundw
      case rel => exact ⟨d + 1, rfl, by omega, by omega, by first | trivial | rfl | exact hw⟩
      case measure => simp [intOf]; omega
end Go.Proofs.Ytpoidaenkjjdfaa
