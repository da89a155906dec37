/- Contracts of coupon's check, Coupon, Last, Accrued. -/
import Derived.Test.YtkbkohkhpmpddaaSec
namespace Go.Proofs.Ytkbkohkhpmpddaa
open Go.RowKit
set_option linter.unusedVariables false

theorem ret_ee {a b a' b' : Int} (h : a = a' ∧ b = b') : Ending.returned (.tuple #[.int .i64 a, .int .i64 b]) = .returned (.tuple #[.int .i64 a', .int .i64 b']) := by
  obtain ⟨rfl, rfl⟩ := h; rfl
/-- of a first call in a boxed parameter's world -/
theorem below_box {w w1 : World} {o : Obj} (h : Below (w.alloc o).heap.size (w.alloc o) w1) : Below w.heap.size w w1 := ((Below.refl _ _).alloc (Nat.le_refl _) _).trans (h.mono (by simp))

theorem amongC_any (n lo hi : Int) (w : World) : Calls Try.prog 57 #[.int .i64 n, .int .i64 lo, .int .i64 hi] w fun e w' => e = .returned (.bool (inB n lo hi)) ∧ w = w' := by
  go_enter Try.func57, Try.ntmps57
  go_wp2
  all_goals (go_ret; exact ⟨ret_bool (by simp only [inB]; first | (rw [Bool.eq_iff_iff]; simp; omega) | (simp; omega)), rfl⟩)
theorem nearest_any (n d : Int) (w : World) (h0 : 0 ≤ n) (h1 : n ≤ 9000000000000000000) (d0 : 2 ≤ d) (d1 : d ≤ 1000000000) : Calls Try.prog 54 #[.int .i64 n, .int .i64 d] w fun e w' => e = .returned (.int .i64 ((n + d / 2) / d)) ∧ w = w' := by
  have b0 : 0 ≤ (n + d / 2) / d := Int.ediv_nonneg (by omega) (by omega)
  have b1 : (n + d / 2) / d ≤ n + d / 2 := Int.ediv_le_self _ (by omega)
  go_enter Try.func54, Try.ntmps54
  go_wp2
  go_ret
  exact ⟨rfl, rfl⟩

/-- the error of a security and an amount -/
def ccE (id un is ma ra ev n : Int) : Int := if secB id un is ma ra ev then (if inB n 0 1000000000000 then 0 else 2) else 76
theorem ccheck_any (id un is ma ra ev : Int) (ix : Bool) (n : Int) (w : World) :
    Calls Try.prog 53 #[.agg #[.int .i64 id, .int .i64 un, .int .i64 is, .int .i64 ma, .int .i64 ra, .int .i64 ev, .bool ix], .int .i64 n] w fun e w' => e = .returned (.int .i64 (ccE id un is ma ra ev n)) ∧ Below w.heap.size w w' := by
  unfold ccE
  cases hs : secB id un is ma ra ev <;> cases hn : inB n 0 1000000000000
  all_goals
    go_enter Try.func53, Try.ntmps53
    go_wp2_with fail
    refine (security_any id un is ma ra ev ix _).mono ?_
    rw [hs]
    rintro e w1 ⟨rfl, hb⟩
    have hB := below_box hb
    go_wp2_with (go_at_call 45; refine (valid_any _ _).mono ?_; rintro e w' ⟨rfl, rfl⟩)
    go_ret
    exact ⟨rfl, hB⟩

/-- a coupon -/
def cpN (id un is ma ra ev n : Int) : Int := if ccE id un is ma ra ev n = 0 then (n * ra * ev + 600000) / 1200000 else 0
theorem ccE_zero {id un is ma ra ev n : Int} (h : ccE id un is ma ra ev n = 0) : SecOk id un is ma ra ev ∧ 0 ≤ n ∧ n ≤ 1000000000000 := by
  unfold ccE at h
  split at h
  · split at h
    · exact ⟨secB_iff.1 (by assumption), inB_iff.1 (by assumption)⟩
    · omega
  · omega
theorem ccE_of {id un is ma ra ev n : Int} (h : SecOk id un is ma ra ev) (h0 : 0 ≤ n) (h1 : n ≤ 1000000000000) : ccE id un is ma ra ev n = 0 := by
  unfold ccE
  rw [secB_iff.2 h, inB_iff.2 ⟨h0, h1⟩]
  rfl
theorem coupon_any (id un is ma ra ev : Int) (ix : Bool) (n : Int) (w : World) :
    Calls Try.prog 16 #[.agg #[.int .i64 id, .int .i64 un, .int .i64 is, .int .i64 ma, .int .i64 ra, .int .i64 ev, .bool ix], .int .i64 n] w fun e w' => e = .returned (.tuple #[.int .i64 (cpN id un is ma ra ev n), .int .i64 (ccE id un is ma ra ev n)]) ∧ Below w.heap.size w w' := by
  unfold cpN
  by_cases h : ccE id un is ma ra ev n = 0
  · obtain ⟨hs, n0, n1⟩ := ccE_zero h
    obtain ⟨_, _, _, _, _, _, _, _, r0, r1, he⟩ := hs
    have e0 : 0 ≤ ev ∧ ev ≤ 12 := by omega
    obtain ⟨e0, e1⟩ := e0
    obtain ⟨p0, p1⟩ := mul_bd n0 n1 r0 r1
    obtain ⟨q0, q1⟩ := mul_bd p0 p1 e0 e1
    clear he
    rw [if_pos h, h]
    have H := Lib.hid h
    clear h
    go_enter Try.func16, Try.ntmps16
    go_wp2_with fail
    refine (ccheck_any id un is ma ra ev ix n _).mono ?_
    rw [H.out]
    rintro e w1 ⟨rfl, hb⟩
    obtain ⟨hc, hf⟩ := bcell hb
    have hB := below_box hb
    have hz : w.heap.size < w1.heap.size := by have := hb.size; simp at this; omega
    go_wp2_with (go_at_call 54; refine (nearest_any _ _ _ (by omega) (by omega) (by omega) (by omega)).mono ?_; rintro e w' ⟨rfl, rfl⟩)
    go_ret2
    exact ⟨ret_ee ⟨rfl, rfl⟩, hB⟩
  · rw [if_neg h]
    have h' : (ccE id un is ma ra ev n != 0) = true := by simpa using h
    have H := Lib.hid h
    clear h
    go_enter Try.func16, Try.ntmps16
    go_wp2_with fail
    refine (ccheck_any id un is ma ra ev ix n _).mono ?_
    rintro e w1 ⟨rfl, hb⟩
    have hB := below_box hb
    go_wp2
    go_ret2
    exact ⟨rfl, hB⟩

/-- the last coupon day -/
def lastD (id un is ma ra ev day : Int) : Int := if secB id un is ma ra ev && inB day is ma then (if ev = 0 then is else day - (day - is) % (30 * ev)) else -1
theorem lastD_yes {id un is ma ra ev day : Int} (h : SecOk id un is ma ra ev) (h0 : is ≤ day) (h1 : day ≤ ma) : lastD id un is ma ra ev day = if ev = 0 then is else day - (day - is) % (30 * ev) := by
  unfold lastD
  rw [secB_iff.2 h, inB_iff.2 ⟨h0, h1⟩]
  rfl
set_option maxHeartbeats 400000 in
theorem last_any (id un is ma ra ev : Int) (ix : Bool) (day : Int) (w : World) :
    Calls Try.prog 19 #[.agg #[.int .i64 id, .int .i64 un, .int .i64 is, .int .i64 ma, .int .i64 ra, .int .i64 ev, .bool ix], .int .i64 day] w fun e w' => e = .returned (.int .i64 (lastD id un is ma ra ev day)) ∧ Below w.heap.size w w' := by
  cases hs : secB id un is ma ra ev
  · rw [show lastD id un is ma ra ev day = -1 by simp [lastD, hs]]
    go_enter Try.func19, Try.ntmps19
    go_wp2_with fail
    refine (security_any id un is ma ra ev ix _).mono ?_
    rw [hs]
    rintro e w1 ⟨rfl, hb⟩
    have hB := below_box hb
    go_wp2
    go_ret
    exact ⟨rfl, hB⟩
  · obtain ⟨_, _, _, _, i0, m0, m1, m2, r0, r1, he⟩ := secB_iff.1 hs
    have HS := Lib.hid hs
    cases hd : inB day is ma
    · rw [show lastD id un is ma ra ev day = -1 by simp [lastD, hd]]
      clear hs he
      go_enter Try.func19, Try.ntmps19
      go_wp2_with fail
      refine (security_any id un is ma ra ev ix _).mono ?_
      rw [HS.out]
      rintro e w1 ⟨rfl, hb⟩
      obtain ⟨hc, hf⟩ := bcell hb
      have hB := below_box hb
      have hz : w.heap.size < w1.heap.size := by have := hb.size; simp at this; omega
      go_wp2_with (go_at_call 57; refine (amongC_any _ _ _ _).mono ?_; rintro e w' ⟨rfl, rfl⟩)
      go_ret
      exact ⟨rfl, hB⟩
    · obtain ⟨d0, d1⟩ := inB_iff.1 hd
      rw [show lastD id un is ma ra ev day = if ev = 0 then is else day - (day - is) % (30 * ev) by simp [lastD, hs, hd]]
      clear hs
      by_cases e0 : ev = 0
      · rw [if_pos e0]
        have HE := Lib.hid he
        clear he
        have e1 : (ev == 0) = true := by simpa using e0
        clear e0
        go_enter Try.func19, Try.ntmps19
        go_wp2_with fail
        refine (security_any id un is ma ra ev ix _).mono ?_
        rw [HS.out]
        rintro e w1 ⟨rfl, hb⟩
        obtain ⟨hc, hf⟩ := bcell hb
        have hB := below_box hb
        have hz : w.heap.size < w1.heap.size := by have := hb.size; simp at this; omega
        go_wp2_with (go_at_call 57; refine (amongC_any _ _ _ _).mono ?_; rintro e w' ⟨rfl, rfl⟩)
        go_ret
        exact ⟨rfl, hB⟩
      · rw [if_neg e0]
        have e1 : 1 ≤ ev := by omega
        have e2 : ev ≤ 12 := by omega
        have e3 : (ev == 0) = false := by simpa using e0
        have k0 : 0 ≤ (day - is) % (30 * ev) := Int.emod_nonneg _ (by omega)
        have k1 : (day - is) % (30 * ev) < 30 * ev := Int.emod_lt_of_pos _ (by omega)
        clear he e0
        go_enter Try.func19, Try.ntmps19
        go_wp2_with fail
        refine (security_any id un is ma ra ev ix _).mono ?_
        rw [HS.out]
        rintro e w1 ⟨rfl, hb⟩
        obtain ⟨hc, hf⟩ := bcell hb
        have hB := below_box hb
        have hz : w.heap.size < w1.heap.size := by have := hb.size; simp at this; omega
        go_wp2_with (go_at_call 57; refine (amongC_any _ _ _ _).mono ?_; rintro e w' ⟨rfl, rfl⟩)
        go_ret
        exact ⟨rfl, hB⟩
end Go.Proofs.Ytkbkohkhpmpddaa
