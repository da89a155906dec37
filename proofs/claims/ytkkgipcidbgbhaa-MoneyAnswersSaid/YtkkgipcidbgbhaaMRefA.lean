/- The reference of layer 1: Add, Sum, Percent, Share. -/
import Derived.Test.YtkkgipcidbgbhaaMonS
namespace Go.Proofs.Ytkkgipcidbgbhaa
open Go.RowKit
set_option linter.unusedVariables false
set_option linter.unusedSimpArgs false
theorem adV_eq (a b : Int) : adV a b = if ttB a && (ttB b && ttB (a + b)) then a + b else 0 := by
  unfold adV; simp only [smV, Int.zero_add]
  cases h1 : ttB a <;> cases h2 : ttB b <;> cases h3 : ttB (a + b) <;> simp
theorem adE_eq (a b : Int) : adE a b = if ttB a && (ttB b && ttB (a + b)) then 0 else 2 := by
  unfold adE; simp only [smE, Int.zero_add]
  cases h1 : ttB a <;> cases h2 : ttB b <;> cases h3 : ttB (a + b) <;> simp
theorem r01add_any (a b : Int) (w : World) : Calls Try.prog 41 #[.int .i64 a, .int .i64 b] w fun e w' => e = .returned (.tuple #[.int .i64 (adV a b), .int .i64 (adE a b)]) ∧ w = w' := by
  rw [adV_eq, adE_eq]
  cases h1 : ttB a
  · have H1 := Lib.hid (show inB a (-1000000000000000) 1000000000000000 = false from h1)
    simp only [Bool.false_and, Bool.false_eq_true, if_false]
    clear h1
    go_enter Try.func41, Try.ntmps41
    go_wp2_with (go_at_call 47; refine (r01total_any _ _).mono ?_; rw [H1.out]; rintro e w1 ⟨rfl, rfl⟩)
    go_ret2
    exact ⟨rfl, rfl⟩
  have H1 := Lib.hid (show inB a (-1000000000000000) 1000000000000000 = true from h1)
  obtain ⟨a0, a1⟩ := ttB_iff.1 h1
  cases h2 : ttB b
  · have H2 := Lib.hid (show inB b (-1000000000000000) 1000000000000000 = false from h2)
    simp only [Bool.false_and, Bool.true_and, Bool.false_eq_true, if_false]
    clear h1 h2
    go_enter Try.func41, Try.ntmps41
    go_wp2_with (go_at_call 47; refine (r01total_any _ _).mono ?_; (first | rw [H1.out] | rw [H2.out]); rintro e w1 ⟨rfl, rfl⟩)
    go_ret2
    exact ⟨rfl, rfl⟩
  have H2 := Lib.hid (show inB b (-1000000000000000) 1000000000000000 = true from h2)
  obtain ⟨b0, b1⟩ := ttB_iff.1 h2
  have wab : IntKind.i64.wrap (a + b) = a + b := IntWalk.i64_in _ (by omega)
  cases h3 : ttB (a + b)
  · have H3 := Lib.hid (show inB (a + b) (-1000000000000000) 1000000000000000 = false from h3)
    simp only [Bool.false_and, Bool.true_and, Bool.false_eq_true, if_false]
    clear h1 h2 h3
    go_enter Try.func41, Try.ntmps41
    go_wp2_with (go_at_call 47; refine (r01total_any _ _).mono ?_; (first | rw [H3.out] | rw [H1.out] | rw [H2.out]); rintro e w1 ⟨rfl, rfl⟩)
    go_ret2
    exact ⟨rfl, rfl⟩
  have H3 := Lib.hid (show inB (a + b) (-1000000000000000) 1000000000000000 = true from h3)
  simp only [Bool.and_self, if_true]
  clear h1 h2 h3
  go_enter Try.func41, Try.ntmps41
  go_wp2_with (go_at_call 47; refine (r01total_any _ _).mono ?_; (first | rw [H3.out] | rw [H1.out] | rw [H2.out]); rintro e w1 ⟨rfl, rfl⟩)
  go_ret2
  exact ⟨rfl, rfl⟩
set_option maxHeartbeats 1000000 in
theorem r01sum_any (P : Nat → Prop) (v : Value) (L : List Int) (w : World) (hS : Sl 1 encI P w v L) (hl : L.length ≤ 1000000) :
    Calls Try.prog 48 #[v] w fun e w' => e = .returned (.tuple #[.int .i64 (smV 0 L), .int .i64 (smE 0 L)]) ∧ w = w' := by
  obtain ⟨ao, n, c, rfl, hn, hnc, hcm⟩ := hS.shape
  have HS := Lib.hid hS
  have HN := Lib.hid hn
  have hn1 : n ≤ 1000000 := by omega
  obtain ⟨V, hV⟩ : ∃ V, smV 0 L = V := ⟨_, rfl⟩
  obtain ⟨E, hE⟩ : ∃ E, smE 0 L = E := ⟨_, rfl⟩
  rw [hV, hE]
  have HV := Lib.hid hV
  have HE := Lib.hid hE
  clear hS hn hl hV hE
  go_enter Try.func48, Try.ntmps48
  go_wp2
  go_loopw [4, 11] (fun sv iv wr => ∃ (k : Nat) (s : Int), k ≤ n ∧ iv = .int .i64 k ∧ sv = .int .i64 s ∧ ttB s = true ∧ smV s (L.drop k) = V ∧ smE s (L.drop k) = E ∧ wr = w) (fun _ iv _ => n - (intOf iv).toNat)
  case atStart => exact ⟨0, 0, by omega, rfl, rfl, by decide, HV.out, HE.out, by first | exact rfl | exact True.intro⟩
  case round =>
    obtain ⟨k, s, hk, rfl, rfl, hs, h1, h2, rfl⟩ := hrel
    by_cases hlt : k < n
    · obtain ⟨b, off, x, rfl, -, -, hx, hc⟩ := HS.out.int hlt
      rw [drop_cons hx] at h1 h2
      simp only [smV, smE] at h1 h2
      have hA := adV_eq s x
      have hB := adE_eq s x
      rw [hs, Bool.true_and] at hA hB
      obtain ⟨q, hq⟩ : ∃ q, (ttB x && ttB (s + x)) = q := ⟨_, rfl⟩
      rw [hq] at h1 h2 hA hB
      obtain ⟨AV, hAV⟩ : ∃ AV, adV s x = AV := ⟨_, rfl⟩
      obtain ⟨AE, hAE⟩ : ∃ AE, adE s x = AE := ⟨_, rfl⟩
      have HC := Lib.hid (r01add_any s x wr)
      rw [hAV] at hA
      rw [hAE] at hB
      rw [hAV, hAE] at HC
      have hlt3 : (k : Int) < n := by omega
      clear hx hAV hAE hs
      cases q
      · simp only [Bool.false_eq_true, if_false] at h1 h2 hA hB
        subst h1 h2 hA hB
        clear hq
        go_wp2_with (go_at_call 41; refine HC.out.mono ?_; rintro e w1 ⟨rfl, rfl⟩)
        go_ret2
        exact ⟨rfl, rfl⟩
      · simp only [if_true] at h1 h2 hA hB
        subst hA hB
        have HT2 := Lib.hid (Bool.and_eq_true _ _ ▸ hq : ttB x = true ∧ ttB (s + x) = true)
        have HV2 := Lib.hid h1
        have HE2 := Lib.hid h2
        clear h1 h2 hq
        go_wp2_with (go_at_call 41; refine HC.out.mono ?_; rintro e w1 ⟨rfl, rfl⟩)
        go_roundw
        case rel => exact ⟨k + 1, s + x, by omega, by go_num, rfl, HT2.out.2, HV2.out, HE2.out, by first | exact rfl | exact True.intro⟩
        case measure => simp [intOf]; omega
    · have hkn : ¬ (k : Int) < n := by omega
      rw [drop_all (by have := HN.out; omega)] at h1 h2
      simp only [smV, smE] at h1 h2
      subst h1 h2
      go_wp2
      go_ret2
      exact ⟨rfl, by first | exact rfl | exact True.intro⟩
theorem r01percent_any (a p : Int) (w : World) : Calls Try.prog 42 #[.int .i64 a, .int .i64 p] w fun e w' => e = .returned (.tuple #[.int .i64 (pcV a p), .int .i64 (pcE a p)]) ∧ w = w' := by
  unfold pcV pcE
  cases h1 : inB a 0 1000000000000
  · go_enter Try.func42, Try.ntmps42
    go_wp2_with (go_at_call 45; refine (r01valid_any _ _).mono ?_; rw [h1]; rintro e w' ⟨rfl, rfl⟩)
    go_ret2
    exact ⟨rfl, rfl⟩
  obtain ⟨a0, a1⟩ := inB_iff.1 h1
  cases h2 : inB p 0 100
  · have h3 := inB_not.1 h2
    rcases (show p < 0 ∨ (0 ≤ p ∧ 100 < p) by omega) with g | ⟨g, g'⟩
    all_goals
      clear h3 h2
      go_enter Try.func42, Try.ntmps42
      go_wp2_with (go_at_call 45; refine (r01valid_any _ _).mono ?_; rw [h1]; rintro e w' ⟨rfl, rfl⟩)
      go_ret2
      exact ⟨rfl, rfl⟩
  obtain ⟨p0, p1⟩ := inB_iff.1 h2
  obtain ⟨q0, q1⟩ := mul_bd a0 a1 p0 p1
  clear h2
  go_enter Try.func42, Try.ntmps42
  go_wp2_with (go_at_call 45; refine (r01valid_any _ _).mono ?_; rw [h1]; rintro e w' ⟨rfl, rfl⟩)
  go_ret2
  exact ⟨rfl, rfl⟩
/-- rounding: twice the number and the divisor, halved -/
theorem round_half {p d : Int} (hd : 0 < d) : (2 * p + d) / (2 * d) = if d ≤ 2 * (p % d) then p / d + 1 else p / d := by
  have e := Int.mul_ediv_add_emod p d
  have r0 := Int.emod_nonneg p (show d ≠ 0 by omega)
  have r1 := Int.emod_lt_of_pos p hd
  obtain ⟨q, hq⟩ : ∃ q, p / d = q := ⟨_, rfl⟩
  obtain ⟨r, hr⟩ : ∃ r, p % d = r := ⟨_, rfl⟩
  rw [hq, hr] at e
  rw [hr] at r0 r1
  rw [hq, hr]
  have e2 : 2 * p + d = (2 * r + d) + (2 * d) * q := by rw [← e, Int.mul_add, ← Int.mul_assoc]; omega
  rw [e2, Int.add_mul_ediv_left _ _ (by omega)]
  split
  · rw [show 2 * r + d = (2 * r - d) + (2 * d) * 1 by omega, Int.add_mul_ediv_left _ _ (by omega), Int.ediv_eq_zero_of_lt (by omega) (by omega)]
    omega
  · rw [Int.ediv_eq_zero_of_lt (by omega) (by omega)]; omega
set_option maxHeartbeats 400000 in
theorem r01share_any (a n d : Int) (w : World) : Calls Try.prog 43 #[.int .i64 a, .int .i64 n, .int .i64 d] w fun e w' => e = .returned (.tuple #[.int .i64 (shV a n d), .int .i64 (shE a n d)]) ∧ w = w' := by
  unfold shV shE
  cases h : shOk a n d
  · simp only [Bool.false_eq_true, if_false]
    cases h1 : inB a 0 1000000000000
    · clear h
      go_enter Try.func43, Try.ntmps43
      go_wp2_with (go_at_call 45; refine (r01valid_any _ _).mono ?_; rw [h1]; rintro e w' ⟨rfl, rfl⟩)
      go_ret2
      exact ⟨rfl, rfl⟩
    have hn : ¬ ((0 ≤ n ∧ n ≤ 1000000) ∧ (1 ≤ d ∧ d ≤ 1000000)) := fun hh => by
      have := shOk_iff.2 ⟨inB_iff.1 h1, hh⟩
      rw [h] at this; cases this
    clear h
    have hc : n < 0 ∨ (0 ≤ n ∧ 1000000 < n) ∨ (0 ≤ n ∧ n ≤ 1000000 ∧ d < 1) ∨ (0 ≤ n ∧ n ≤ 1000000 ∧ 1 ≤ d ∧ 1000000 < d) := by omega
    clear hn
    have H1 := Lib.hid h1
    clear h1
    rcases hc with g | ⟨g, g1⟩ | ⟨g, g1, g2⟩ | ⟨g, g1, g2, g3⟩
    all_goals
      go_enter Try.func43, Try.ntmps43
      go_wp2_with (go_at_call 45; refine (r01valid_any _ _).mono ?_; rw [H1.out]; rintro e w' ⟨rfl, rfl⟩)
      go_ret2
      exact ⟨rfl, rfl⟩
  · obtain ⟨⟨a0, a1⟩, ⟨n0, n1⟩, d0, d1⟩ := shOk_iff.1 h
    have H1 := Lib.hid (inB_iff.2 ⟨a0, a1⟩)
    obtain ⟨p0, p1⟩ := mul_bd a0 a1 n0 n1
    have hr := round_half (p := a * n) (show 0 < d by omega)
    rw [show 2 * (a * n) = 2 * a * n by rw [Int.mul_assoc]] at hr
    rw [hr]
    clear h hr
    simp only [if_true]
    obtain ⟨p, hp⟩ : ∃ p, a * n = p := ⟨_, rfl⟩
    rw [hp] at p0 p1 ⊢
    have wp_ : IntKind.i64.wrap p = p := IntWalk.i64_in _ (by omega)
    have eq1 : p.tdiv d = p / d := Int.tdiv_eq_ediv_of_nonneg p0
    have eq2 : p.tmod d = p % d := Int.tmod_eq_emod_of_nonneg p0
    have q0 : 0 ≤ p / d := Int.ediv_nonneg p0 (by omega)
    have q1 : p / d ≤ p := Int.ediv_le_self _ p0
    have r0 := Int.emod_nonneg p (show d ≠ 0 by omega)
    have r1 := Int.emod_lt_of_pos p (show 0 < d by omega)
    obtain ⟨q, hq⟩ : ∃ q, p / d = q := ⟨_, rfl⟩
    obtain ⟨r, hr⟩ : ∃ r, p % d = r := ⟨_, rfl⟩
    rw [hq] at eq1 q0 q1 ⊢
    rw [hr] at eq2 r0 r1 ⊢
    have wq_ : IntKind.i64.wrap q = q := IntWalk.i64_in _ (by omega)
    have wr_ : IntKind.i64.wrap r = r := IntWalk.i64_in _ (by omega)
    have w2_ : IntKind.i64.wrap (2 * r) = 2 * r := IntWalk.i64_in _ (by omega)
    have w3_ : IntKind.i64.wrap (q + 1) = q + 1 := IntWalk.i64_in _ (by omega)
    have hd0 : (d == 0) = false := by simp; omega
    clear hq hr p0 p1
    by_cases hc : d ≤ 2 * r
    · rw [if_pos hc]
      cases hv : inB (q + 1) 0 1000000000000
      all_goals
        have HV := Lib.hid hv
        unfold ckV ckE
        rw [hv]
        clear hv
        go_enter Try.func43, Try.ntmps43
        go_wp2_with (go_at_call 45; refine (r01valid_any _ _).mono ?_; (first | rw [HV.out] | rw [H1.out]); rintro e w' ⟨rfl, rfl⟩)
        go_ret2
        exact ⟨rfl, rfl⟩
    · rw [if_neg hc]
      cases hv : inB q 0 1000000000000
      all_goals
        have HV := Lib.hid hv
        unfold ckV ckE
        rw [hv]
        clear hv
        go_enter Try.func43, Try.ntmps43
        go_wp2_with (go_at_call 45; refine (r01valid_any _ _).mono ?_; (first | rw [HV.out] | rw [H1.out]); rintro e w' ⟨rfl, rfl⟩)
        go_ret2
        exact ⟨rfl, rfl⟩
end Go.Proofs.Ytkkgipcidbgbhaa
