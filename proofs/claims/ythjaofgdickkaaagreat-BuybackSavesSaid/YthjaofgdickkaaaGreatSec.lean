/- The contract of register.Security. -/
import Derived.Test.YthjaofgdickkaaaGreatNum
import Derived.Lib.Hide
namespace Go.Proofs.YthjaofgdickkaaaGreat
open Go.RowKit

/-- a valid security -/
def secB (id un is ma ra ev : Int) : Bool :=
  inB id 1 1000 && inB un 1 1000000000 && inB is 0 36000 && inB ma (is + 30) (min (is + 18000) 35990) && inB ra 0 20000 &&
  ((ev == 0 && (ma - is) % 30 == 0 && ra == 0) || (ev == 1 && (ma - is) % 30 == 0) || (ev == 3 && (ma - is) % 90 == 0) || (ev == 6 && (ma - is) % 180 == 0) || (ev == 12 && (ma - is) % 360 == 0))
structure SecOk (id un is ma ra ev : Int) : Prop where
  id0 : 1 ≤ id
  id1 : id ≤ 1000
  un0 : 1 ≤ un
  un1 : un ≤ 1000000000
  is0 : 0 ≤ is
  ma0 : is + 30 ≤ ma
  ma1 : ma ≤ is + 18000
  ma2 : ma ≤ 35990
  ra0 : 0 ≤ ra
  ra1 : ra ≤ 20000
  ev : (ev = 0 ∧ (ma - is) % 30 = 0 ∧ ra = 0) ∨ (ev = 1 ∧ (ma - is) % 30 = 0) ∨ (ev = 3 ∧ (ma - is) % 90 = 0) ∨ (ev = 6 ∧ (ma - is) % 180 = 0) ∨ (ev = 12 ∧ (ma - is) % 360 = 0)
theorem secB_iff {id un is ma ra ev : Int} : secB id un is ma ra ev = true ↔ SecOk id un is ma ra ev := by
  constructor
  · intro h
    simp only [secB, inB, Bool.and_eq_true, Bool.or_eq_true, decide_eq_true_eq, beq_iff_eq] at h
    obtain ⟨⟨⟨⟨⟨⟨h1, h2⟩, h3, h4⟩, h5, h6⟩, h7, h8⟩, h9, h10⟩, h11⟩ := h
    exact ⟨h1, h2, h3, h4, h5, h7, by omega, by omega, h9, h10, by omega⟩
  · rintro ⟨h1, h2, h3, h4, h5, h7, h8, h8', h9, h10, h11⟩
    simp only [secB, inB, Bool.and_eq_true, Bool.or_eq_true, decide_eq_true_eq, beq_iff_eq]
    refine ⟨⟨⟨⟨⟨⟨h1, h2⟩, h3, h4⟩, h5, by omega⟩, h7, by omega⟩, h9, h10⟩, by omega⟩
theorem secB_false {id un is ma ra ev : Int} (h : ¬ SecOk id un is ma ra ev) : secB id un is ma ra ev = false := by
  rw [← secB_iff] at h
  simpa using h

theorem amongR_any (n lo hi : Int) (w : World) : Calls Tryz.prog 226 #[.int .i64 n, .int .i64 lo, .int .i64 hi] w fun e w' => e = .returned (.bool (inB n lo hi)) ∧ w = w' := by
  go_enter Tryz.func226, Tryz.ntmps226
  go_wp2
  all_goals (go_ret; exact ⟨ret_bool (by simp only [inB]; first | (rw [Bool.eq_iff_iff]; simp; omega) | (simp; omega)), rfl⟩)

theorem security_no1 (id un is ma ra ev : Int) (ix : Bool) (w : World) (h : inB id 1 1000 = false ∨ (inB id 1 1000 = true ∧ inB un 1 1000000000 = false) ∨ (inB id 1 1000 = true ∧ inB un 1 1000000000 = true ∧ inB is 0 36000 = false)) :
    Calls Tryz.prog 126 #[.agg #[.int .i64 id, .int .i64 un, .int .i64 is, .int .i64 ma, .int .i64 ra, .int .i64 ev, .bool ix]] w fun e w' => e = .returned (.bool false) ∧ Below w.heap.size w w' := by
  rcases h with h | ⟨h, k⟩ | ⟨h, k, l⟩
  all_goals
    go_enter Tryz.func126, Tryz.ntmps126
    go_wp2_with (go_at_call 226; refine (amongR_any _ _ _ _).mono ?_; rintro e w' ⟨rfl, rfl⟩)
    go_ret
    exact ⟨rfl, (Below.refl _ _).alloc (Nat.le_refl _) _⟩
theorem security_no2 (id un is ma ra ev : Int) (ix : Bool) (w : World) (h1 : inB id 1 1000 = true) (h2 : inB un 1 1000000000 = true) (h3 : inB is 0 36000 = true) (i0 : 0 ≤ is) (i1 : is ≤ 36000)
    (h : inB ma (is + 30) (min (is + 18000) 35990) = false ∨ (inB ma (is + 30) (min (is + 18000) 35990) = true ∧ inB ra 0 20000 = false)) :
    Calls Tryz.prog 126 #[.agg #[.int .i64 id, .int .i64 un, .int .i64 is, .int .i64 ma, .int .i64 ra, .int .i64 ev, .bool ix]] w fun e w' => e = .returned (.bool false) ∧ Below w.heap.size w w' := by
  rcases (show is + 18000 ≤ 35990 ∨ 35990 < is + 18000 by omega) with q | q
  all_goals
    first | rw [Int.min_eq_left q] at h | rw [Int.min_eq_right (by omega)] at h
    rcases h with h | ⟨h, k⟩
    all_goals
      go_enter Tryz.func126, Tryz.ntmps126
      go_wp2_with (go_at_call 226; refine (amongR_any _ _ _ _).mono ?_; rintro e w' ⟨rfl, rfl⟩)
      go_ret
      exact ⟨rfl, (Below.refl _ _).alloc (Nat.le_refl _) _⟩
set_option maxHeartbeats 400000 in
theorem security_yes (id un is ma ra ev : Int) (ix : Bool) (w : World) (h1 : inB id 1 1000 = true) (h2 : inB un 1 1000000000 = true) (h3 : inB is 0 36000 = true) (i0 : 0 ≤ is) (i1 : is ≤ 36000)
    (h4 : inB ma (is + 30) (min (is + 18000) 35990) = true) (m0 : is + 30 ≤ ma) (m1 : ma ≤ is + 18000) (h5 : inB ra 0 20000 = true) (b : Bool) (hb : secB id un is ma ra ev = b) :
    Calls Tryz.prog 126 #[.agg #[.int .i64 id, .int .i64 un, .int .i64 is, .int .i64 ma, .int .i64 ra, .int .i64 ev, .bool ix]] w fun e w' => e = .returned (.bool b) ∧ Below w.heap.size w w' := by
  have hb' : secB id un is ma ra ev = ((ev == 0 && (ma - is) % 30 == 0 && ra == 0) || (ev == 1 && (ma - is) % 30 == 0) || (ev == 3 && (ma - is) % 90 == 0) || (ev == 6 && (ma - is) % 180 == 0) || (ev == 12 && (ma - is) % 360 == 0)) := by
    simp only [secB, h1, h2, h3, h4, h5, Bool.true_and]
  rw [hb'] at hb
  have HB := Lib.hid hb
  clear hb hb'
  rcases (show is + 18000 ≤ 35990 ∨ 35990 < is + 18000 by omega) with q | q
  all_goals
    first | rw [Int.min_eq_left q] at h4 | rw [Int.min_eq_right (by omega)] at h4
    rcases (show ev = 0 ∨ ev = 1 ∨ ev = 3 ∨ ev = 6 ∨ ev = 12 ∨ (¬ ev = 0 ∧ ¬ ev = 1 ∧ ¬ ev = 3 ∧ ¬ ev = 6 ∧ ¬ ev = 12) by omega) with rfl | rfl | rfl | rfl | rfl | ⟨e0, e1, e2, e3, e4⟩
    all_goals
      go_enter Tryz.func126, Tryz.ntmps126
      go_wp2_with (go_at_call 226; refine (amongR_any _ _ _ _).mono ?_; rintro e w' ⟨rfl, rfl⟩)
      all_goals
        go_ret
        refine ⟨ret_bool ?_, (Below.refl _ _).alloc (Nat.le_refl _) _⟩
        rw [← HB.out]
        clear HB
        first | rfl | simp_all
theorem security_any (id un is ma ra ev : Int) (ix : Bool) (w : World) :
    Calls Tryz.prog 126 #[.agg #[.int .i64 id, .int .i64 un, .int .i64 is, .int .i64 ma, .int .i64 ra, .int .i64 ev, .bool ix]] w fun e w' => e = .returned (.bool (secB id un is ma ra ev)) ∧ Below w.heap.size w w' := by
  cases h1 : inB id 1 1000
  · rw [show secB id un is ma ra ev = false by simp [secB, h1]]
    exact security_no1 id un is ma ra ev ix w (.inl h1)
  cases h2 : inB un 1 1000000000
  · rw [show secB id un is ma ra ev = false by simp [secB, h2]]
    exact security_no1 id un is ma ra ev ix w (.inr (.inl ⟨h1, h2⟩))
  cases h3 : inB is 0 36000
  · rw [show secB id un is ma ra ev = false by simp [secB, h3]]
    exact security_no1 id un is ma ra ev ix w (.inr (.inr ⟨h1, h2, h3⟩))
  obtain ⟨i0, i1⟩ := inB_iff.1 h3
  cases h4 : inB ma (is + 30) (min (is + 18000) 35990)
  · rw [show secB id un is ma ra ev = false by simp [secB, h4]]
    exact security_no2 id un is ma ra ev ix w h1 h2 h3 i0 i1 (.inl h4)
  obtain ⟨m0, m1⟩ := inB_iff.1 h4
  cases h5 : inB ra 0 20000
  · rw [show secB id un is ma ra ev = false by simp [secB, h5]]
    exact security_no2 id un is ma ra ev ix w h1 h2 h3 i0 i1 (.inr ⟨h4, h5⟩)
  exact security_yes id un is ma ra ev ix w h1 h2 h3 i0 i1 h4 m0 (by omega) h5 _ rfl
end Go.Proofs.YthjaofgdickkaaaGreat
