/- Contracts of the references' Security and Coupon. -/
import Derived.Test.YtkbkohkhpmpddaaCoup
namespace Go.Proofs.Ytkbkohkhpmpddaa
open Go.RowKit
set_option linter.unusedVariables false

theorem secB_eq_false {id un is ma ra ev : Int} (h : SecOk id un is ma ra ev → False) : false = secB id un is ma ra ev := (secB_false h).symm
set_option maxHeartbeats 1000000 in
theorem r33sec_no1 (id un is ma ra ev : Int) (ix : Bool) (w : World)  (q : id < 1) : Calls Try.prog 61 #[.agg #[.int .i64 id, .int .i64 un, .int .i64 is, .int .i64 ma, .int .i64 ra, .int .i64 ev, .bool ix]] w fun e w' => e = .returned (.bool (secB id un is ma ra ev)) ∧ Below w.heap.size w w' := by
  have hf := Lib.hid (show false = secB id un is ma ra ev from by refine secB_eq_false ?_; rintro ⟨_, _, _, _, _, _, _, _, _, _, _⟩; omega)
  have d1 : decide (id < 1) = true := by simpa using q
  go_enter Try.func61, Try.ntmps61
  go_wp2
  go_ret
  exact ⟨ret_bool hf.out, (Below.refl _ _).alloc (Nat.le_refl _) _⟩
set_option maxHeartbeats 1000000 in
theorem r33sec_no2 (id un is ma ra ev : Int) (ix : Bool) (w : World) (h1 : 1 ≤ id) (q : 1000 < id) : Calls Try.prog 61 #[.agg #[.int .i64 id, .int .i64 un, .int .i64 is, .int .i64 ma, .int .i64 ra, .int .i64 ev, .bool ix]] w fun e w' => e = .returned (.bool (secB id un is ma ra ev)) ∧ Below w.heap.size w w' := by
  have hf := Lib.hid (show false = secB id un is ma ra ev from by refine secB_eq_false ?_; rintro ⟨_, _, _, _, _, _, _, _, _, _, _⟩; omega)
  have d1 : decide (id < 1) = false := by simp; omega
  have d2 : decide (1000 < id) = true := by simpa using q
  go_enter Try.func61, Try.ntmps61
  go_wp2
  go_ret
  exact ⟨ret_bool hf.out, (Below.refl _ _).alloc (Nat.le_refl _) _⟩
set_option maxHeartbeats 1000000 in
theorem r33sec_no3 (id un is ma ra ev : Int) (ix : Bool) (w : World) (h1 : 1 ≤ id) (h2 : id ≤ 1000) (q : un < 1) : Calls Try.prog 61 #[.agg #[.int .i64 id, .int .i64 un, .int .i64 is, .int .i64 ma, .int .i64 ra, .int .i64 ev, .bool ix]] w fun e w' => e = .returned (.bool (secB id un is ma ra ev)) ∧ Below w.heap.size w w' := by
  have hf := Lib.hid (show false = secB id un is ma ra ev from by refine secB_eq_false ?_; rintro ⟨_, _, _, _, _, _, _, _, _, _, _⟩; omega)
  have d1 : decide (id < 1) = false := by simp; omega
  have d2 : decide (1000 < id) = false := by simp; omega
  have d3 : decide (un < 1) = true := by simpa using q
  go_enter Try.func61, Try.ntmps61
  go_wp2
  go_ret
  exact ⟨ret_bool hf.out, (Below.refl _ _).alloc (Nat.le_refl _) _⟩
set_option maxHeartbeats 1000000 in
theorem r33sec_no4 (id un is ma ra ev : Int) (ix : Bool) (w : World) (h1 : 1 ≤ id) (h2 : id ≤ 1000) (h3 : 1 ≤ un) (q : 1000000000 < un) : Calls Try.prog 61 #[.agg #[.int .i64 id, .int .i64 un, .int .i64 is, .int .i64 ma, .int .i64 ra, .int .i64 ev, .bool ix]] w fun e w' => e = .returned (.bool (secB id un is ma ra ev)) ∧ Below w.heap.size w w' := by
  have hf := Lib.hid (show false = secB id un is ma ra ev from by refine secB_eq_false ?_; rintro ⟨_, _, _, _, _, _, _, _, _, _, _⟩; omega)
  have d1 : decide (id < 1) = false := by simp; omega
  have d2 : decide (1000 < id) = false := by simp; omega
  have d3 : decide (un < 1) = false := by simp; omega
  have d4 : decide (1000000000 < un) = true := by simpa using q
  go_enter Try.func61, Try.ntmps61
  go_wp2
  go_ret
  exact ⟨ret_bool hf.out, (Below.refl _ _).alloc (Nat.le_refl _) _⟩
set_option maxHeartbeats 1000000 in
theorem r33sec_no5 (id un is ma ra ev : Int) (ix : Bool) (w : World) (h1 : 1 ≤ id) (h2 : id ≤ 1000) (h3 : 1 ≤ un) (h4 : un ≤ 1000000000) (q : is < 0) : Calls Try.prog 61 #[.agg #[.int .i64 id, .int .i64 un, .int .i64 is, .int .i64 ma, .int .i64 ra, .int .i64 ev, .bool ix]] w fun e w' => e = .returned (.bool (secB id un is ma ra ev)) ∧ Below w.heap.size w w' := by
  have hf := Lib.hid (show false = secB id un is ma ra ev from by refine secB_eq_false ?_; rintro ⟨_, _, _, _, _, _, _, _, _, _, _⟩; omega)
  have d1 : decide (id < 1) = false := by simp; omega
  have d2 : decide (1000 < id) = false := by simp; omega
  have d3 : decide (un < 1) = false := by simp; omega
  have d4 : decide (1000000000 < un) = false := by simp; omega
  have d5 : decide (is < 0) = true := by simpa using q
  go_enter Try.func61, Try.ntmps61
  go_wp2
  go_ret
  exact ⟨ret_bool hf.out, (Below.refl _ _).alloc (Nat.le_refl _) _⟩
set_option maxHeartbeats 1000000 in
theorem r33sec_no6 (id un is ma ra ev : Int) (ix : Bool) (w : World) (h1 : 1 ≤ id) (h2 : id ≤ 1000) (h3 : 1 ≤ un) (h4 : un ≤ 1000000000) (h5 : 0 ≤ is) (q : 36000 < is) : Calls Try.prog 61 #[.agg #[.int .i64 id, .int .i64 un, .int .i64 is, .int .i64 ma, .int .i64 ra, .int .i64 ev, .bool ix]] w fun e w' => e = .returned (.bool (secB id un is ma ra ev)) ∧ Below w.heap.size w w' := by
  have hf := Lib.hid (show false = secB id un is ma ra ev from by refine secB_eq_false ?_; rintro ⟨_, _, _, _, _, _, _, _, _, _, _⟩; omega)
  have d1 : decide (id < 1) = false := by simp; omega
  have d2 : decide (1000 < id) = false := by simp; omega
  have d3 : decide (un < 1) = false := by simp; omega
  have d4 : decide (1000000000 < un) = false := by simp; omega
  have d5 : decide (is < 0) = false := by simp; omega
  have d6 : decide (36000 < is) = true := by simpa using q
  go_enter Try.func61, Try.ntmps61
  go_wp2
  go_ret
  exact ⟨ret_bool hf.out, (Below.refl _ _).alloc (Nat.le_refl _) _⟩
set_option maxHeartbeats 1000000 in
theorem r33sec_no7 (id un is ma ra ev : Int) (ix : Bool) (w : World) (h1 : 1 ≤ id) (h2 : id ≤ 1000) (h3 : 1 ≤ un) (h4 : un ≤ 1000000000) (h5 : 0 ≤ is) (h6 : is ≤ 36000) (q : 35990 < ma) : Calls Try.prog 61 #[.agg #[.int .i64 id, .int .i64 un, .int .i64 is, .int .i64 ma, .int .i64 ra, .int .i64 ev, .bool ix]] w fun e w' => e = .returned (.bool (secB id un is ma ra ev)) ∧ Below w.heap.size w w' := by
  have hf := Lib.hid (show false = secB id un is ma ra ev from by refine secB_eq_false ?_; rintro ⟨_, _, _, _, _, _, _, _, _, _, _⟩; omega)
  have d1 : decide (id < 1) = false := by simp; omega
  have d2 : decide (1000 < id) = false := by simp; omega
  have d3 : decide (un < 1) = false := by simp; omega
  have d4 : decide (1000000000 < un) = false := by simp; omega
  have d5 : decide (is < 0) = false := by simp; omega
  have d6 : decide (36000 < is) = false := by simp; omega
  have d7 : decide (35990 < ma) = true := by simpa using q
  go_enter Try.func61, Try.ntmps61
  go_wp2
  go_ret
  exact ⟨ret_bool hf.out, (Below.refl _ _).alloc (Nat.le_refl _) _⟩
set_option maxHeartbeats 1000000 in
theorem r33sec_no8 (id un is ma ra ev : Int) (ix : Bool) (w : World) (h1 : 1 ≤ id) (h2 : id ≤ 1000) (h3 : 1 ≤ un) (h4 : un ≤ 1000000000) (h5 : 0 ≤ is) (h6 : is ≤ 36000) (h7 : ma ≤ 35990) (q : ma < is + 30) : Calls Try.prog 61 #[.agg #[.int .i64 id, .int .i64 un, .int .i64 is, .int .i64 ma, .int .i64 ra, .int .i64 ev, .bool ix]] w fun e w' => e = .returned (.bool (secB id un is ma ra ev)) ∧ Below w.heap.size w w' := by
  have hf := Lib.hid (show false = secB id un is ma ra ev from by refine secB_eq_false ?_; rintro ⟨_, _, _, _, _, _, _, _, _, _, _⟩; omega)
  have d1 : decide (id < 1) = false := by simp; omega
  have d2 : decide (1000 < id) = false := by simp; omega
  have d3 : decide (un < 1) = false := by simp; omega
  have d4 : decide (1000000000 < un) = false := by simp; omega
  have d5 : decide (is < 0) = false := by simp; omega
  have d6 : decide (36000 < is) = false := by simp; omega
  have d7 : decide (35990 < ma) = false := by simp; omega
  have d8 : decide (ma < is + 30) = true := by simpa using q
  go_enter Try.func61, Try.ntmps61
  go_wp2
  go_ret
  exact ⟨ret_bool hf.out, (Below.refl _ _).alloc (Nat.le_refl _) _⟩
set_option maxHeartbeats 1000000 in
theorem r33sec_no9 (id un is ma ra ev : Int) (ix : Bool) (w : World) (h1 : 1 ≤ id) (h2 : id ≤ 1000) (h3 : 1 ≤ un) (h4 : un ≤ 1000000000) (h5 : 0 ≤ is) (h6 : is ≤ 36000) (h7 : ma ≤ 35990) (h8 : is + 30 ≤ ma) (q : is + 18000 < ma) : Calls Try.prog 61 #[.agg #[.int .i64 id, .int .i64 un, .int .i64 is, .int .i64 ma, .int .i64 ra, .int .i64 ev, .bool ix]] w fun e w' => e = .returned (.bool (secB id un is ma ra ev)) ∧ Below w.heap.size w w' := by
  have hf := Lib.hid (show false = secB id un is ma ra ev from by refine secB_eq_false ?_; rintro ⟨_, _, _, _, _, _, _, _, _, _, _⟩; omega)
  have d1 : decide (id < 1) = false := by simp; omega
  have d2 : decide (1000 < id) = false := by simp; omega
  have d3 : decide (un < 1) = false := by simp; omega
  have d4 : decide (1000000000 < un) = false := by simp; omega
  have d5 : decide (is < 0) = false := by simp; omega
  have d6 : decide (36000 < is) = false := by simp; omega
  have d7 : decide (35990 < ma) = false := by simp; omega
  have d8 : decide (ma < is + 30) = false := by simp; omega
  have d9 : decide (is + 18000 < ma) = true := by simpa using q
  go_enter Try.func61, Try.ntmps61
  go_wp2
  go_ret
  exact ⟨ret_bool hf.out, (Below.refl _ _).alloc (Nat.le_refl _) _⟩
set_option maxHeartbeats 1000000 in
theorem r33sec_no10 (id un is ma ra ev : Int) (ix : Bool) (w : World) (h1 : 1 ≤ id) (h2 : id ≤ 1000) (h3 : 1 ≤ un) (h4 : un ≤ 1000000000) (h5 : 0 ≤ is) (h6 : is ≤ 36000) (h7 : ma ≤ 35990) (h8 : is + 30 ≤ ma) (h9 : ma ≤ is + 18000) (q : ((ma - is) % 30 == 0) = false) (q' : ((ma - is) % 30 != 0) = true) : Calls Try.prog 61 #[.agg #[.int .i64 id, .int .i64 un, .int .i64 is, .int .i64 ma, .int .i64 ra, .int .i64 ev, .bool ix]] w fun e w' => e = .returned (.bool (secB id un is ma ra ev)) ∧ Below w.heap.size w w' := by
  have hf := Lib.hid (show false = secB id un is ma ra ev from by refine secB_eq_false ?_; rintro ⟨_, _, _, _, _, _, _, _, _, _, _⟩; simp at q; omega)
  have d1 : decide (id < 1) = false := by simp; omega
  have d2 : decide (1000 < id) = false := by simp; omega
  have d3 : decide (un < 1) = false := by simp; omega
  have d4 : decide (1000000000 < un) = false := by simp; omega
  have d5 : decide (is < 0) = false := by simp; omega
  have d6 : decide (36000 < is) = false := by simp; omega
  have d7 : decide (35990 < ma) = false := by simp; omega
  have d8 : decide (ma < is + 30) = false := by simp; omega
  have d9 : decide (is + 18000 < ma) = false := by simp; omega
  go_enter Try.func61, Try.ntmps61
  go_wp2
  go_ret
  exact ⟨ret_bool hf.out, (Below.refl _ _).alloc (Nat.le_refl _) _⟩
set_option maxHeartbeats 1000000 in
theorem r33sec_no11 (id un is ma ra ev : Int) (ix : Bool) (w : World) (h1 : 1 ≤ id) (h2 : id ≤ 1000) (h3 : 1 ≤ un) (h4 : un ≤ 1000000000) (h5 : 0 ≤ is) (h6 : is ≤ 36000) (h7 : ma ≤ 35990) (h8 : is + 30 ≤ ma) (h9 : ma ≤ is + 18000) (h10 : ((ma - is) % 30 == 0) = true) (h10' : ((ma - is) % 30 != 0) = false) (q : ra < 0) : Calls Try.prog 61 #[.agg #[.int .i64 id, .int .i64 un, .int .i64 is, .int .i64 ma, .int .i64 ra, .int .i64 ev, .bool ix]] w fun e w' => e = .returned (.bool (secB id un is ma ra ev)) ∧ Below w.heap.size w w' := by
  have hf := Lib.hid (show false = secB id un is ma ra ev from by refine secB_eq_false ?_; rintro ⟨_, _, _, _, _, _, _, _, _, _, _⟩; omega)
  have d1 : decide (id < 1) = false := by simp; omega
  have d2 : decide (1000 < id) = false := by simp; omega
  have d3 : decide (un < 1) = false := by simp; omega
  have d4 : decide (1000000000 < un) = false := by simp; omega
  have d5 : decide (is < 0) = false := by simp; omega
  have d6 : decide (36000 < is) = false := by simp; omega
  have d7 : decide (35990 < ma) = false := by simp; omega
  have d8 : decide (ma < is + 30) = false := by simp; omega
  have d9 : decide (is + 18000 < ma) = false := by simp; omega
  have d11 : decide (ra < 0) = true := by simpa using q
  go_enter Try.func61, Try.ntmps61
  go_wp2
  go_ret
  exact ⟨ret_bool hf.out, (Below.refl _ _).alloc (Nat.le_refl _) _⟩
set_option maxHeartbeats 1000000 in
theorem r33sec_no12 (id un is ma ra ev : Int) (ix : Bool) (w : World) (h1 : 1 ≤ id) (h2 : id ≤ 1000) (h3 : 1 ≤ un) (h4 : un ≤ 1000000000) (h5 : 0 ≤ is) (h6 : is ≤ 36000) (h7 : ma ≤ 35990) (h8 : is + 30 ≤ ma) (h9 : ma ≤ is + 18000) (h10 : ((ma - is) % 30 == 0) = true) (h10' : ((ma - is) % 30 != 0) = false) (h11 : 0 ≤ ra) (q : 20000 < ra) : Calls Try.prog 61 #[.agg #[.int .i64 id, .int .i64 un, .int .i64 is, .int .i64 ma, .int .i64 ra, .int .i64 ev, .bool ix]] w fun e w' => e = .returned (.bool (secB id un is ma ra ev)) ∧ Below w.heap.size w w' := by
  have hf := Lib.hid (show false = secB id un is ma ra ev from by refine secB_eq_false ?_; rintro ⟨_, _, _, _, _, _, _, _, _, _, _⟩; omega)
  have d1 : decide (id < 1) = false := by simp; omega
  have d2 : decide (1000 < id) = false := by simp; omega
  have d3 : decide (un < 1) = false := by simp; omega
  have d4 : decide (1000000000 < un) = false := by simp; omega
  have d5 : decide (is < 0) = false := by simp; omega
  have d6 : decide (36000 < is) = false := by simp; omega
  have d7 : decide (35990 < ma) = false := by simp; omega
  have d8 : decide (ma < is + 30) = false := by simp; omega
  have d9 : decide (is + 18000 < ma) = false := by simp; omega
  have d11 : decide (ra < 0) = false := by simp; omega
  have d12 : decide (20000 < ra) = true := by simpa using q
  go_enter Try.func61, Try.ntmps61
  go_wp2
  go_ret
  exact ⟨ret_bool hf.out, (Below.refl _ _).alloc (Nat.le_refl _) _⟩
set_option maxHeartbeats 8000000 in
theorem r33sec_last (id un is ma ra ev : Int) (ix : Bool) (w : World) (h1 : 1 ≤ id) (h2 : id ≤ 1000) (h3 : 1 ≤ un) (h4 : un ≤ 1000000000) (h5 : 0 ≤ is) (h6 : is ≤ 36000) (h7 : ma ≤ 35990) (h8 : is + 30 ≤ ma) (h9 : ma ≤ is + 18000) (h10 : ((ma - is) % 30 == 0) = true) (h10' : ((ma - is) % 30 != 0) = false) (h11 : 0 ≤ ra) (h12 : ra ≤ 20000) (b : Bool) (hb : secB id un is ma ra ev = b) : Calls Try.prog 61 #[.agg #[.int .i64 id, .int .i64 un, .int .i64 is, .int .i64 ma, .int .i64 ra, .int .i64 ev, .bool ix]] w fun e w' => e = .returned (.bool b) ∧ Below w.heap.size w w' := by
  have hs : secB id un is ma ra ev = true ↔ ((ev = 0 ∧ ra = 0) ∨ (ev = 1) ∨ (ev = 3 ∧ (ma - is) % 90 = 0) ∨ (ev = 6 ∧ (ma - is) % 180 = 0) ∨ (ev = 12 ∧ (ma - is) % 360 = 0)) := by
    have h10x : (ma - is) % 30 = 0 := by simpa using h10
    rw [secB_iff]
    constructor
    · rintro ⟨_, _, _, _, _, _, _, _, _, _, e⟩; omega
    · intro e; exact ⟨h1, h2, h3, h4, h5, h8, h9, h7, h11, h12, by omega⟩
  rw [hb] at hs
  have HS := Lib.hid hs
  clear hs hb
  have d1 : decide (id < 1) = false := by simp; omega
  have d2 : decide (1000 < id) = false := by simp; omega
  have d3 : decide (un < 1) = false := by simp; omega
  have d4 : decide (1000000000 < un) = false := by simp; omega
  have d5 : decide (is < 0) = false := by simp; omega
  have d6 : decide (36000 < is) = false := by simp; omega
  have d7 : decide (35990 < ma) = false := by simp; omega
  have d8 : decide (ma < is + 30) = false := by simp; omega
  have d9 : decide (is + 18000 < ma) = false := by simp; omega
  have d11 : decide (ra < 0) = false := by simp; omega
  have d12 : decide (20000 < ra) = false := by simp; omega
  rcases (show ev = 0 ∨ ev = 1 ∨ ev = 3 ∨ ev = 6 ∨ ev = 12 ∨ (¬ ev = 0 ∧ ¬ ev = 1 ∧ ¬ ev = 3 ∧ ¬ ev = 6 ∧ ¬ ev = 12) by omega) with rfl | rfl | rfl | rfl | rfl | ⟨e0, e1, e2, e3, e4⟩
  all_goals
    go_enter Try.func61, Try.ntmps61
    go_wp2
    all_goals
      go_ret
      refine ⟨ret_bool ?_, (Below.refl _ _).alloc (Nat.le_refl _) _⟩
      rw [Bool.eq_iff_iff, HS.out]
      simp at h10 ⊢
      first | done | omega
theorem r33sec_any (id un is ma ra ev : Int) (ix : Bool) (w : World) : Calls Try.prog 61 #[.agg #[.int .i64 id, .int .i64 un, .int .i64 is, .int .i64 ma, .int .i64 ra, .int .i64 ev, .bool ix]] w fun e w' => e = .returned (.bool (secB id un is ma ra ev)) ∧ Below w.heap.size w w' := by
  by_cases q1 : id < 1
  · exact r33sec_no1 id un is ma ra ev ix w  q1
  have g1 : 1 ≤ id := by omega
  by_cases q2 : 1000 < id
  · exact r33sec_no2 id un is ma ra ev ix w g1 q2
  have g2 : id ≤ 1000 := by omega
  by_cases q3 : un < 1
  · exact r33sec_no3 id un is ma ra ev ix w g1 g2 q3
  have g3 : 1 ≤ un := by omega
  by_cases q4 : 1000000000 < un
  · exact r33sec_no4 id un is ma ra ev ix w g1 g2 g3 q4
  have g4 : un ≤ 1000000000 := by omega
  by_cases q5 : is < 0
  · exact r33sec_no5 id un is ma ra ev ix w g1 g2 g3 g4 q5
  have g5 : 0 ≤ is := by omega
  by_cases q6 : 36000 < is
  · exact r33sec_no6 id un is ma ra ev ix w g1 g2 g3 g4 g5 q6
  have g6 : is ≤ 36000 := by omega
  by_cases q7 : 35990 < ma
  · exact r33sec_no7 id un is ma ra ev ix w g1 g2 g3 g4 g5 g6 q7
  have g7 : ma ≤ 35990 := by omega
  by_cases q8 : ma < is + 30
  · exact r33sec_no8 id un is ma ra ev ix w g1 g2 g3 g4 g5 g6 g7 q8
  have g8 : is + 30 ≤ ma := by omega
  by_cases q9 : is + 18000 < ma
  · exact r33sec_no9 id un is ma ra ev ix w g1 g2 g3 g4 g5 g6 g7 g8 q9
  have g9 : ma ≤ is + 18000 := by omega
  cases g10 : ((ma - is) % 30 == 0)
  · exact r33sec_no10 id un is ma ra ev ix w g1 g2 g3 g4 g5 g6 g7 g8 g9 g10 (by rw [bne, g10]; rfl)
  have g10' : ((ma - is) % 30 != 0) = false := by rw [bne, g10]; rfl
  by_cases q11 : ra < 0
  · exact r33sec_no11 id un is ma ra ev ix w g1 g2 g3 g4 g5 g6 g7 g8 g9 g10 g10' q11
  have g11 : 0 ≤ ra := by omega
  by_cases q12 : 20000 < ra
  · exact r33sec_no12 id un is ma ra ev ix w g1 g2 g3 g4 g5 g6 g7 g8 g9 g10 g10' g11 q12
  have g12 : ra ≤ 20000 := by omega
  exact r33sec_last id un is ma ra ev ix w g1 g2 g3 g4 g5 g6 g7 g8 g9 g10 g10' g11 g12 _ rfl
/-- the reference's coupon is the coupon -/
theorem r34coupon_any (id un is ma ra ev : Int) (ix : Bool) (n : Int) (w : World) :
    Calls Try.prog 30 #[.agg #[.int .i64 id, .int .i64 un, .int .i64 is, .int .i64 ma, .int .i64 ra, .int .i64 ev, .bool ix], .int .i64 n] w fun e w' => e = .returned (.tuple #[.int .i64 (cpN id un is ma ra ev n), .int .i64 (ccE id un is ma ra ev n)]) ∧ Below w.heap.size w w' := by
  cases hs : secB id un is ma ra ev
  · have hf := Lib.hid (show ccE id un is ma ra ev n = 76 ∧ cpN id un is ma ra ev n = 0 by simp [ccE, cpN, hs])
    go_enter Try.func30, Try.ntmps30
    go_wp2_with fail
    refine (r33sec_any id un is ma ra ev ix _).mono ?_
    rw [hs]
    rintro e w1 ⟨rfl, hb⟩
    have hB := below_box hb
    go_wp2
    go_ret2
    exact ⟨ret_ee ⟨hf.out.2.symm, hf.out.1.symm⟩, hB⟩
  cases hn : inB n 0 1000000000000
  · have hf := Lib.hid (show ccE id un is ma ra ev n = 2 ∧ cpN id un is ma ra ev n = 0 by simp [ccE, cpN, hs, hn])
    go_enter Try.func30, Try.ntmps30
    go_wp2_with fail
    refine (r33sec_any id un is ma ra ev ix _).mono ?_
    rw [hs]
    rintro e w1 ⟨rfl, hb⟩
    have hB := below_box hb
    go_wp2_with (go_at_call 46; refine (r01valid_any _ _).mono ?_; rw [hn]; rintro e w' ⟨rfl, rfl⟩)
    go_ret2
    exact ⟨ret_ee ⟨hf.out.2.symm, hf.out.1.symm⟩, hB⟩
  obtain ⟨n0, n1⟩ := inB_iff.1 hn
  have hz := ccE_of (secB_iff.1 hs) n0 n1
  have hf := Lib.hid (show ccE id un is ma ra ev n = 0 ∧ cpN id un is ma ra ev n = (n * ra * ev + 600000) / 1200000 from ⟨hz, if_pos hz⟩)
  obtain ⟨_, _, _, _, _, _, _, _, r0, r1, he⟩ := secB_iff.1 hs
  have e0 : 0 ≤ ev ∧ ev ≤ 12 := by omega
  obtain ⟨e0, e1⟩ := e0
  obtain ⟨p0, p1⟩ := mul_bd n0 n1 r0 r1
  obtain ⟨q0, q1⟩ := mul_bd p0 p1 e0 e1
  have HS := Lib.hid hs
  clear he hz hs
  go_enter Try.func30, Try.ntmps30
  go_wp2_with fail
  refine (r33sec_any id un is ma ra ev ix _).mono ?_
  rw [HS.out]
  rintro e w1 ⟨rfl, hb⟩
  obtain ⟨hc, hfz⟩ := bcell hb
  have hz : w.heap.size < w1.heap.size := by have := hb.size; simp at this; omega
  have hB := below_box hb
  go_wp2_with (go_at_call 46; refine (r01valid_any _ _).mono ?_; rw [hn]; rintro e w' ⟨rfl, rfl⟩)
  go_ret2
  exact ⟨ret_ee ⟨hf.out.2.symm, hf.out.1.symm⟩, hB⟩
end Go.Proofs.Ytkbkohkhpmpddaa
