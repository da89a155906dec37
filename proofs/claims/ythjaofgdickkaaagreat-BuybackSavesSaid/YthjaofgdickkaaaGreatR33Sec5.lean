/- The contract of the reference's Security. -/
import Derived.Test.YthjaofgdickkaaaGreatR33Sec0
namespace Go.Proofs.YthjaofgdickkaaaGreat
open Go.RowKit
set_option linter.unusedVariables false

set_option maxHeartbeats 8000000 in
theorem r33sec_last (id un is ma ra ev : Int) (ix : Bool) (w : World) (h1 : 1 ≤ id) (h2 : id ≤ 1000) (h3 : 1 ≤ un) (h4 : un ≤ 1000000000) (h5 : 0 ≤ is) (h6 : is ≤ 36000) (h7 : ma ≤ 35990) (h8 : is + 30 ≤ ma) (h9 : ma ≤ is + 18000) (h10 : ((ma - is) % 30 == 0) = true) (h10' : ((ma - is) % 30 != 0) = false) (h11 : 0 ≤ ra) (h12 : ra ≤ 20000) (b : Bool) (hb : secB id un is ma ra ev = b) : Calls Tryz.prog 127 #[.agg #[.int .i64 id, .int .i64 un, .int .i64 is, .int .i64 ma, .int .i64 ra, .int .i64 ev, .bool ix]] w fun e w' => e = .returned (.bool b) ∧ Below w.heap.size w w' := by
  have hs : secB id un is ma ra ev = true ↔ ((ev = 0 ∧ ra = 0) ∨ (ev = 1) ∨ (ev = 3 ∧ (ma - is) % 90 = 0) ∨ (ev = 6 ∧ (ma - is) % 180 = 0) ∨ (ev = 12 ∧ (ma - is) % 360 = 0)) := by
    have h10x : (ma - is) % 30 = 0 := by simpa using h10
    rw [secB_iff]
    constructor
    · rintro ⟨_, _, _, _, _, _, _, _, _, _, e⟩; omega
    · intro e; exact ⟨h1, h2, h3, h4, h5, h8, h9, h7, h11, h12, by omega⟩
  rw [hb] at hs
  have HS := Lib.hid hs
  clear hs hb
  have d1 : decide (id < 1) = false := by simp; omega
  have d2 : decide (1000 < id) = false := by simp; omega
  have d3 : decide (un < 1) = false := by simp; omega
  have d4 : decide (1000000000 < un) = false := by simp; omega
  have d5 : decide (is < 0) = false := by simp; omega
  have d6 : decide (36000 < is) = false := by simp; omega
  have d7 : decide (35990 < ma) = false := by simp; omega
  have d8 : decide (ma < is + 30) = false := by simp; omega
  have d9 : decide (is + 18000 < ma) = false := by simp; omega
  have d11 : decide (ra < 0) = false := by simp; omega
  have d12 : decide (20000 < ra) = false := by simp; omega
  rcases (show ev = 0 ∨ ev = 1 ∨ ev = 3 ∨ ev = 6 ∨ ev = 12 ∨ (¬ ev = 0 ∧ ¬ ev = 1 ∧ ¬ ev = 3 ∧ ¬ ev = 6 ∧ ¬ ev = 12) by omega) with rfl | rfl | rfl | rfl | rfl | ⟨e0, e1, e2, e3, e4⟩
  all_goals
    go_enter Tryz.func127, Tryz.ntmps127
    go_wp2
    all_goals
      go_ret
      refine ⟨ret_bool ?_, (Below.refl _ _).alloc (Nat.le_refl _) _⟩
      rw [Bool.eq_iff_iff, HS.out]
      simp at h10 ⊢
      first | done | omega
end Go.Proofs.YthjaofgdickkaaaGreat
