/- MoneyShares: the law's walk. -/
import Derived.Test.YtkkgipcidbgbhaaAwake
namespace Go.Proofs.Ytkkgipcidbgbhaa
open Go.RowKit
set_option linter.unusedVariables false
set_option linter.unusedSimpArgs false
theorem pc_facts {x y k : Int} (x0 : 0 ≤ x) (xy : x ≤ y) (y1 : y ≤ 1000000000000) (k0 : 0 ≤ k) (k1 : k ≤ 100) :
    pcE x k = 0 ∧ pcE y k = 0 ∧ pcE x (100 - k) = 0 ∧ pcV x k ≤ pcV y k ∧ 0 ≤ pcV x k ∧ pcV x k ≤ x ∧ 0 ≤ pcV x (100 - k) ∧ pcV x (100 - k) ≤ x ∧ pcV x k + pcV x (100 - k) ≤ x ∧ x - 1 ≤ pcV x k + pcV x (100 - k) := by
  have h1 : inB x 0 1000000000000 = true := inB_iff.2 ⟨x0, by omega⟩
  have h2 : inB y 0 1000000000000 = true := inB_iff.2 ⟨by omega, y1⟩
  have h3 : inB k 0 100 = true := inB_iff.2 ⟨k0, k1⟩
  have h4 : inB (100 - k) 0 100 = true := inB_iff.2 ⟨by omega, by omega⟩
  have m1 := Int.mul_le_mul_of_nonneg_right xy k0
  have m2 := mul_bd x0 (Int.le_refl x) k0 k1
  have m3 := mul_bd x0 (Int.le_refl x) (show 0 ≤ 100 - k by omega) (show 100 - k ≤ 100 by omega)
  have m4 : x * k + x * (100 - k) = x * 100 := by rw [← Int.mul_add]; congr 1; omega
  have e1 : (inB x 0 1000000000000 && inB k 0 100) = true := by rw [h1, h3]; rfl
  have e2 : (inB y 0 1000000000000 && inB k 0 100) = true := by rw [h2, h3]; rfl
  have e3 : (inB x 0 1000000000000 && inB (100 - k) 0 100) = true := by rw [h1, h4]; rfl
  unfold pcE pcV
  rw [if_pos e1, if_pos e2, if_pos e3, if_pos e1, if_pos e2, if_pos e3]
  clear e1 e2 e3 h1 h2 h3 h4
  omega
theorem sh_facts {x y n d : Int} (x0 : 0 ≤ x) (xy : x ≤ y) (y1 : y ≤ 4294967295) (n0 : 0 ≤ n) (n1 : n ≤ 65535) (d0 : 1 ≤ d) (d1 : d ≤ 65536) :
    (shE x n d ≠ 0 → 999999999999 < x * n / d) ∧ (shE y n d ≠ 0 → 999999999999 < y * n / d) ∧ (shE x n d = 0 → shE y n d = 0 → shV x n d ≤ shV y n d ∧ 0 ≤ shV x n d ∧ shV x n d ≤ 1000000000000 ∧ 2 * (shV x n d * d - x * n) ≤ d ∧ 2 * (x * n - shV x n d * d) < d ∧ 0 ≤ shV x n d * d ∧ shV x n d * d ≤ 400000000000000000) := by
  have o1 : shOk x n d = true := shOk_iff.2 ⟨⟨x0, by omega⟩, ⟨n0, by omega⟩, d0, by omega⟩
  have o2 : shOk y n d = true := shOk_iff.2 ⟨⟨by omega, by omega⟩, ⟨n0, by omega⟩, d0, by omega⟩
  have big : ∀ z : Int, 0 ≤ z → z ≤ y → shE z n d ≠ 0 → shOk z n d = true → 999999999999 < z * n / d := fun z z0 z1 he ho => by
    unfold shE at he
    rw [ho, if_pos rfl] at he
    unfold ckE at he
    have pz := Int.mul_nonneg z0 n0
    have q0 : 0 ≤ (2 * z * n + d) / (2 * d) := Int.ediv_nonneg (by rw [Int.mul_assoc]; omega) (by omega)
    have hq : 1000000000000 < (2 * z * n + d) / (2 * d) := by
      rcases Int.lt_or_le 1000000000000 ((2 * z * n + d) / (2 * d)) with h | h
      · exact h
      · rw [inB_iff.2 ⟨q0, h⟩] at he; simp at he
    have h2 := (Int.le_ediv_iff_mul_le (show 0 < 2 * d by omega)).1 (show (1000000000001 : Int) ≤ (2 * z * n + d) / (2 * d) by omega)
    rw [Int.mul_assoc 2 z n] at h2
    have := (Int.le_ediv_iff_mul_le (show 0 < d by omega)).2 (show (1000000000000 : Int) * d ≤ z * n by omega)
    omega
  refine ⟨fun h => big x x0 xy h o1, fun h => big y (by omega) (Int.le_refl _) h o2, fun h1 h2 => ?_⟩
  have val : ∀ z : Int, 0 ≤ z → z ≤ y → shE z n d = 0 → shOk z n d = true → shV z n d = (2 * (z * n) + d) / (2 * d) ∧ (2 * (z * n) + d) / (2 * d) ≤ 1000000000000 := fun z z0 z1 he ho => by
    unfold shE at he
    rw [ho, if_pos rfl] at he
    unfold ckE at he
    unfold shV ckV
    rw [ho, if_pos rfl]
    rw [Int.mul_assoc 2 z n] at he ⊢
    cases hb : inB ((2 * (z * n) + d) / (2 * d)) 0 1000000000000
    · rw [hb] at he; simp at he
    · exact ⟨rfl, (inB_iff.1 hb).2⟩
  obtain ⟨v1, b1⟩ := val x x0 xy h1 o1
  obtain ⟨v2, b2⟩ := val y (by omega) (Int.le_refl _) h2 o2
  have pz := Int.mul_nonneg x0 n0
  have m1 := Int.mul_le_mul_of_nonneg_right xy n0
  obtain ⟨p, hp⟩ : ∃ p, x * n = p := ⟨_, rfl⟩
  rw [v1, v2]
  rw [hp] at pz m1 b1 ⊢
  have q0 : 0 ≤ (2 * p + d) / (2 * d) := Int.ediv_nonneg (by omega) (by omega)
  have mono := Int.ediv_le_ediv (show 0 < 2 * d by omega) (show 2 * p + d ≤ 2 * (y * n) + d by omega)
  have e := Int.mul_ediv_add_emod (2 * p + d) (2 * d)
  have r0 := Int.emod_nonneg (2 * p + d) (show 2 * d ≠ 0 by omega)
  have r1 := Int.emod_lt_of_pos (2 * p + d) (show 0 < 2 * d by omega)
  obtain ⟨q, hq⟩ : ∃ q, (2 * p + d) / (2 * d) = q := ⟨_, rfl⟩
  rw [hq] at b1 q0 mono e ⊢
  have e2 : 2 * d * q = 2 * (q * d) := by rw [Int.mul_assoc, Int.mul_comm d q]
  rw [e2] at e
  have pq := mul_bd q0 b1 (show 0 ≤ d by omega) d1
  omega
theorem sh_end : True := trivial
set_option maxRecDepth 100000 in
set_option maxHeartbeats 4000000 in
theorem shares_lo (x y k n d : Int) (w : World) (x0 : 0 ≤ x) (xy : x ≤ y) (y1 : y ≤ 4294967295) (k0 : 0 ≤ k) (k1 : k ≤ 255) (n0 : 0 ≤ n) (n1 : n ≤ 65535) (d0 : 0 ≤ d) (d1 : d ≤ 65535) (hlt : x < y) (hle : ¬ y ≤ x) (hlt2 : ¬ y < x) :
    Calls Try.prog 6 #[.int .u32 x, .int .u32 y, .int .u8 k, .int .u16 n, .int .u16 d] w fun e w' => e = .returned (.bool true) ∧ Below w.heap.size w w' := by
  have ek : k.tmod 101 = k % 101 := Int.tmod_eq_emod_of_nonneg k0
  have kb : 0 ≤ k % 101 ∧ k % 101 ≤ 100 := by omega
  obtain ⟨K, hK⟩ : ∃ K, k % 101 = K := ⟨_, rfl⟩
  rw [hK] at ek kb
  obtain ⟨kb0, kb1⟩ := kb
  obtain ⟨E1, E2, E3, P1, P2, P3, P4, P5, P6, P7⟩ := pc_facts x0 xy (by omega) kb0 kb1
  have SF := sh_facts x0 xy y1 n0 n1 (show 1 ≤ 1 + d by omega) (show 1 + d ≤ 65536 by omega)
  obtain ⟨V1, h1⟩ : ∃ V, pcV x K = V := ⟨_, rfl⟩
  obtain ⟨V2, h2⟩ : ∃ V, pcV y K = V := ⟨_, rfl⟩
  obtain ⟨V3, h3⟩ : ∃ V, pcV x (100 - K) = V := ⟨_, rfl⟩
  rw [h1] at P1 P2 P3 P6 P7
  rw [h2] at P1
  rw [h3] at P4 P5 P6 P7
  obtain ⟨D, hD⟩ : ∃ D, 1 + d = D := ⟨_, rfl⟩
  rw [hD] at SF
  have D0 : 1 ≤ D := by omega
  have D1 : D ≤ 65536 := by omega
  obtain ⟨S1, s1⟩ : ∃ V, shV x n D = V := ⟨_, rfl⟩
  obtain ⟨S2, s2⟩ : ∃ V, shV y n D = V := ⟨_, rfl⟩
  obtain ⟨F1, f1⟩ : ∃ V, shE x n D = V := ⟨_, rfl⟩
  obtain ⟨F2, f2⟩ : ∃ V, shE y n D = V := ⟨_, rfl⟩
  rw [s1, s2, f1, f2] at SF
  have CP1 := Lib.hid (fun W => (percent_any x K W).mono fun e w' h => (by rw [h1, E1] at h; exact h : e = .returned (.tuple #[.int .i64 V1, .int .i64 0]) ∧ W = w'))
  have CP2 := Lib.hid (fun W => (percent_any y K W).mono fun e w' h => (by rw [h2, E2] at h; exact h : e = .returned (.tuple #[.int .i64 V2, .int .i64 0]) ∧ W = w'))
  have CP3 := Lib.hid (fun W => (percent_any x (100 - K) W).mono fun e w' h => (by rw [h3, E3] at h; exact h : e = .returned (.tuple #[.int .i64 V3, .int .i64 0]) ∧ W = w'))
  have CS1 := Lib.hid (fun W => (share_any x n D W).mono fun e w' h => (by rw [s1, f1] at h; exact h : e = .returned (.tuple #[.int .i64 S1, .int .i64 F1]) ∧ W = w'))
  have CS2 := Lib.hid (fun W => (share_any y n D W).mono fun e w' h => (by rw [s2, f2] at h; exact h : e = .returned (.tuple #[.int .i64 S2, .int .i64 F2]) ∧ W = w'))
  have m1 := mul_bd x0 (show x ≤ 4294967295 by omega) n0 n1
  have m2 := mul_bd (show 0 ≤ y by omega) y1 n0 n1
  have dq1 : (x * n).tdiv D = x * n / D := Int.tdiv_eq_ediv_of_nonneg m1.1
  have dq2 : (y * n).tdiv D = y * n / D := Int.tdiv_eq_ediv_of_nonneg m2.1
  have db1 : 0 ≤ x * n / D ∧ x * n / D ≤ x * n := ⟨Int.ediv_nonneg m1.1 (by omega), Int.ediv_le_self _ m1.1⟩
  have db2 : 0 ≤ y * n / D ∧ y * n / D ≤ y * n := ⟨Int.ediv_nonneg m2.1 (by omega), Int.ediv_le_self _ m2.1⟩
  have hD0 : (D == 0) = false := by simp; omega
  have hDz : ¬ D = 0 := by omega
  obtain ⟨X, hX⟩ : ∃ X, x * n = X := ⟨_, rfl⟩
  obtain ⟨Y, hY⟩ : ∃ Y, y * n = Y := ⟨_, rfl⟩
  rw [hX] at m1 dq1 db1 SF
  rw [hY] at m2 dq2 db2 SF
  obtain ⟨Z, hZ⟩ : ∃ Z, X / D = Z := ⟨_, rfl⟩
  obtain ⟨U, hU⟩ : ∃ U, Y / D = U := ⟨_, rfl⟩
  rw [hZ] at dq1 db1 SF
  rw [hU] at dq2 db2 SF
  obtain ⟨SFx, SFy, SFo⟩ := SF
  have q1 : decide (V2 < V1) = false := by simp; omega
  have q2 : decide (x < V1) = false := by simp; omega
  have q3 : decide (x < V1 + V3) = false := by simp; omega
  have q4 : decide (V1 + V3 < x - 1) = false := by simp; omega
  have r1 : IntKind.i64.wrap (V1 + V3) = V1 + V3 := IntWalk.i64_in _ (by omega)
  have r2 : IntKind.i64.wrap (x - 1) = x - 1 := IntWalk.i64_in _ (by omega)
  clear E1 E2 E3 h1 h2 h3 s1 s2 f1 f2 hZ hU hK
  by_cases z1 : F1 = 0
  · by_cases z2 : F2 = 0
    · obtain ⟨o1, o2, o3, o4, o5, o6, o7⟩ := SFo z1 z2
      subst z1 z2
      obtain ⟨M, hM⟩ : ∃ M, S1 * D = M := ⟨_, rfl⟩
      rw [hM] at o4 o5 o6 o7
      have t1 : decide (S1 ≤ S2) = true := by simp; omega
      have t2 : decide (2 * (M - X) ≤ D) = true := by simp; omega
      have t3 : decide (2 * (X - M) < D) = true := by simp; omega
      clear SFx SFy SFo
      go_enter Try.func6, Try.ntmps6
      go_wp2_with fail
      (with_reducible refine (CP1.out _).mono ?_)
      rintro e w1 ⟨rfl, rfl⟩
      go_wp2_with fail
      refine (CP2.out _).mono ?_
      rintro e w1 ⟨rfl, rfl⟩
      go_wp2_with fail
      refine (CP3.out _).mono ?_
      rintro e w1 ⟨rfl, rfl⟩
      go_wp2_with fail
      refine (CS1.out _).mono ?_
      rintro e w1 ⟨rfl, rfl⟩
      go_wp2_with fail
      refine (CS2.out _).mono ?_
      rintro e w1 ⟨rfl, rfl⟩
      go_wp2_with (go_at_call 35; refine (awake_any _).mono ?_; rintro e w1 ⟨rfl, hb⟩)
      all_goals (go_ret; exact ⟨rfl, hb⟩)
    · have sy := SFy z2
      have t1 : decide (999999999999 < U) = true := by simp; omega
      subst z1
      have z3 : (F2 == 0) = false := by simpa using z2
      clear SFx SFy SFo
      go_enter Try.func6, Try.ntmps6
      go_wp2_with fail
      (with_reducible refine (CP1.out _).mono ?_)
      rintro e w1 ⟨rfl, rfl⟩
      go_wp2_with fail
      refine (CP2.out _).mono ?_
      rintro e w1 ⟨rfl, rfl⟩
      go_wp2_with fail
      refine (CP3.out _).mono ?_
      rintro e w1 ⟨rfl, rfl⟩
      go_wp2_with fail
      refine (CS1.out _).mono ?_
      rintro e w1 ⟨rfl, rfl⟩
      go_wp2_with fail
      refine (CS2.out _).mono ?_
      rintro e w1 ⟨rfl, rfl⟩
      go_wp2_with (go_at_call 35; refine (awake_any _).mono ?_; rintro e w1 ⟨rfl, hb⟩)
      all_goals (go_ret; exact ⟨rfl, hb⟩)
  · have sx := SFx z1
    have t1 : decide (999999999999 < Z) = true := by simp; omega
    have z3 : (F1 == 0) = false := by simpa using z1
    clear SFx SFy SFo
    go_enter Try.func6, Try.ntmps6
    go_wp2_with fail
    (with_reducible refine (CP1.out _).mono ?_)
    rintro e w1 ⟨rfl, rfl⟩
    go_wp2_with fail
    refine (CP2.out _).mono ?_
    rintro e w1 ⟨rfl, rfl⟩
    go_wp2_with fail
    refine (CP3.out _).mono ?_
    rintro e w1 ⟨rfl, rfl⟩
    go_wp2_with fail
    refine (CS1.out _).mono ?_
    rintro e w1 ⟨rfl, rfl⟩
    go_wp2_with fail
    refine (CS2.out _).mono ?_
    rintro e w1 ⟨rfl, rfl⟩
    go_wp2_with (go_at_call 35; refine (awake_any _).mono ?_; rintro e w1 ⟨rfl, hb⟩)
    all_goals (go_ret; exact ⟨rfl, hb⟩)
set_option maxRecDepth 100000 in
set_option maxHeartbeats 4000000 in
theorem shares_hi (x y k n d : Int) (w : World) (x0 : 0 ≤ x) (xy : x ≤ y) (y1 : y ≤ 4294967295) (k0 : 0 ≤ k) (k1 : k ≤ 255) (n0 : 0 ≤ n) (n1 : n ≤ 65535) (d0 : 0 ≤ d) (d1 : d ≤ 65535) (hlt : x < y) (hle : ¬ y ≤ x) (hlt2 : ¬ y < x) :
    Calls Try.prog 6 #[.int .u32 y, .int .u32 x, .int .u8 k, .int .u16 n, .int .u16 d] w fun e w' => e = .returned (.bool true) ∧ Below w.heap.size w w' := by
  have ek : k.tmod 101 = k % 101 := Int.tmod_eq_emod_of_nonneg k0
  have kb : 0 ≤ k % 101 ∧ k % 101 ≤ 100 := by omega
  obtain ⟨K, hK⟩ : ∃ K, k % 101 = K := ⟨_, rfl⟩
  rw [hK] at ek kb
  obtain ⟨kb0, kb1⟩ := kb
  obtain ⟨E1, E2, E3, P1, P2, P3, P4, P5, P6, P7⟩ := pc_facts x0 xy (by omega) kb0 kb1
  have SF := sh_facts x0 xy y1 n0 n1 (show 1 ≤ 1 + d by omega) (show 1 + d ≤ 65536 by omega)
  obtain ⟨V1, h1⟩ : ∃ V, pcV x K = V := ⟨_, rfl⟩
  obtain ⟨V2, h2⟩ : ∃ V, pcV y K = V := ⟨_, rfl⟩
  obtain ⟨V3, h3⟩ : ∃ V, pcV x (100 - K) = V := ⟨_, rfl⟩
  rw [h1] at P1 P2 P3 P6 P7
  rw [h2] at P1
  rw [h3] at P4 P5 P6 P7
  obtain ⟨D, hD⟩ : ∃ D, 1 + d = D := ⟨_, rfl⟩
  rw [hD] at SF
  have D0 : 1 ≤ D := by omega
  have D1 : D ≤ 65536 := by omega
  obtain ⟨S1, s1⟩ : ∃ V, shV x n D = V := ⟨_, rfl⟩
  obtain ⟨S2, s2⟩ : ∃ V, shV y n D = V := ⟨_, rfl⟩
  obtain ⟨F1, f1⟩ : ∃ V, shE x n D = V := ⟨_, rfl⟩
  obtain ⟨F2, f2⟩ : ∃ V, shE y n D = V := ⟨_, rfl⟩
  rw [s1, s2, f1, f2] at SF
  have CP1 := Lib.hid (fun W => (percent_any x K W).mono fun e w' h => (by rw [h1, E1] at h; exact h : e = .returned (.tuple #[.int .i64 V1, .int .i64 0]) ∧ W = w'))
  have CP2 := Lib.hid (fun W => (percent_any y K W).mono fun e w' h => (by rw [h2, E2] at h; exact h : e = .returned (.tuple #[.int .i64 V2, .int .i64 0]) ∧ W = w'))
  have CP3 := Lib.hid (fun W => (percent_any x (100 - K) W).mono fun e w' h => (by rw [h3, E3] at h; exact h : e = .returned (.tuple #[.int .i64 V3, .int .i64 0]) ∧ W = w'))
  have CS1 := Lib.hid (fun W => (share_any x n D W).mono fun e w' h => (by rw [s1, f1] at h; exact h : e = .returned (.tuple #[.int .i64 S1, .int .i64 F1]) ∧ W = w'))
  have CS2 := Lib.hid (fun W => (share_any y n D W).mono fun e w' h => (by rw [s2, f2] at h; exact h : e = .returned (.tuple #[.int .i64 S2, .int .i64 F2]) ∧ W = w'))
  have m1 := mul_bd x0 (show x ≤ 4294967295 by omega) n0 n1
  have m2 := mul_bd (show 0 ≤ y by omega) y1 n0 n1
  have dq1 : (x * n).tdiv D = x * n / D := Int.tdiv_eq_ediv_of_nonneg m1.1
  have dq2 : (y * n).tdiv D = y * n / D := Int.tdiv_eq_ediv_of_nonneg m2.1
  have db1 : 0 ≤ x * n / D ∧ x * n / D ≤ x * n := ⟨Int.ediv_nonneg m1.1 (by omega), Int.ediv_le_self _ m1.1⟩
  have db2 : 0 ≤ y * n / D ∧ y * n / D ≤ y * n := ⟨Int.ediv_nonneg m2.1 (by omega), Int.ediv_le_self _ m2.1⟩
  have hD0 : (D == 0) = false := by simp; omega
  have hDz : ¬ D = 0 := by omega
  obtain ⟨X, hX⟩ : ∃ X, x * n = X := ⟨_, rfl⟩
  obtain ⟨Y, hY⟩ : ∃ Y, y * n = Y := ⟨_, rfl⟩
  rw [hX] at m1 dq1 db1 SF
  rw [hY] at m2 dq2 db2 SF
  obtain ⟨Z, hZ⟩ : ∃ Z, X / D = Z := ⟨_, rfl⟩
  obtain ⟨U, hU⟩ : ∃ U, Y / D = U := ⟨_, rfl⟩
  rw [hZ] at dq1 db1 SF
  rw [hU] at dq2 db2 SF
  obtain ⟨SFx, SFy, SFo⟩ := SF
  have q1 : decide (V2 < V1) = false := by simp; omega
  have q2 : decide (x < V1) = false := by simp; omega
  have q3 : decide (x < V1 + V3) = false := by simp; omega
  have q4 : decide (V1 + V3 < x - 1) = false := by simp; omega
  have r1 : IntKind.i64.wrap (V1 + V3) = V1 + V3 := IntWalk.i64_in _ (by omega)
  have r2 : IntKind.i64.wrap (x - 1) = x - 1 := IntWalk.i64_in _ (by omega)
  clear E1 E2 E3 h1 h2 h3 s1 s2 f1 f2 hZ hU hK
  by_cases z1 : F1 = 0
  · by_cases z2 : F2 = 0
    · obtain ⟨o1, o2, o3, o4, o5, o6, o7⟩ := SFo z1 z2
      subst z1 z2
      obtain ⟨M, hM⟩ : ∃ M, S1 * D = M := ⟨_, rfl⟩
      rw [hM] at o4 o5 o6 o7
      have t1 : decide (S1 ≤ S2) = true := by simp; omega
      have t2 : decide (2 * (M - X) ≤ D) = true := by simp; omega
      have t3 : decide (2 * (X - M) < D) = true := by simp; omega
      clear SFx SFy SFo
      go_enter Try.func6, Try.ntmps6
      go_wp2_with fail
      (with_reducible refine (CP1.out _).mono ?_)
      rintro e w1 ⟨rfl, rfl⟩
      go_wp2_with fail
      refine (CP2.out _).mono ?_
      rintro e w1 ⟨rfl, rfl⟩
      go_wp2_with fail
      refine (CP3.out _).mono ?_
      rintro e w1 ⟨rfl, rfl⟩
      go_wp2_with fail
      refine (CS1.out _).mono ?_
      rintro e w1 ⟨rfl, rfl⟩
      go_wp2_with fail
      refine (CS2.out _).mono ?_
      rintro e w1 ⟨rfl, rfl⟩
      go_wp2_with (go_at_call 35; refine (awake_any _).mono ?_; rintro e w1 ⟨rfl, hb⟩)
      all_goals (go_ret; exact ⟨rfl, hb⟩)
    · have sy := SFy z2
      have t1 : decide (999999999999 < U) = true := by simp; omega
      subst z1
      have z3 : (F2 == 0) = false := by simpa using z2
      clear SFx SFy SFo
      go_enter Try.func6, Try.ntmps6
      go_wp2_with fail
      (with_reducible refine (CP1.out _).mono ?_)
      rintro e w1 ⟨rfl, rfl⟩
      go_wp2_with fail
      refine (CP2.out _).mono ?_
      rintro e w1 ⟨rfl, rfl⟩
      go_wp2_with fail
      refine (CP3.out _).mono ?_
      rintro e w1 ⟨rfl, rfl⟩
      go_wp2_with fail
      refine (CS1.out _).mono ?_
      rintro e w1 ⟨rfl, rfl⟩
      go_wp2_with fail
      refine (CS2.out _).mono ?_
      rintro e w1 ⟨rfl, rfl⟩
      go_wp2_with (go_at_call 35; refine (awake_any _).mono ?_; rintro e w1 ⟨rfl, hb⟩)
      all_goals (go_ret; exact ⟨rfl, hb⟩)
  · have sx := SFx z1
    have t1 : decide (999999999999 < Z) = true := by simp; omega
    have z3 : (F1 == 0) = false := by simpa using z1
    clear SFx SFy SFo
    go_enter Try.func6, Try.ntmps6
    go_wp2_with fail
    (with_reducible refine (CP1.out _).mono ?_)
    rintro e w1 ⟨rfl, rfl⟩
    go_wp2_with fail
    refine (CP2.out _).mono ?_
    rintro e w1 ⟨rfl, rfl⟩
    go_wp2_with fail
    refine (CP3.out _).mono ?_
    rintro e w1 ⟨rfl, rfl⟩
    go_wp2_with fail
    refine (CS1.out _).mono ?_
    rintro e w1 ⟨rfl, rfl⟩
    go_wp2_with fail
    refine (CS2.out _).mono ?_
    rintro e w1 ⟨rfl, rfl⟩
    go_wp2_with (go_at_call 35; refine (awake_any _).mono ?_; rintro e w1 ⟨rfl, hb⟩)
    all_goals (go_ret; exact ⟨rfl, hb⟩)
set_option maxRecDepth 100000 in
set_option maxHeartbeats 4000000 in
theorem shares_eq (x y k n d : Int) (w : World) (x0 : 0 ≤ x) (xy : x ≤ y) (y1 : y ≤ 4294967295) (k0 : 0 ≤ k) (k1 : k ≤ 255) (n0 : 0 ≤ n) (n1 : n ≤ 65535) (d0 : 0 ≤ d) (d1 : d ≤ 65535) (hyx : y = x) :
    Calls Try.prog 6 #[.int .u32 x, .int .u32 x, .int .u8 k, .int .u16 n, .int .u16 d] w fun e w' => e = .returned (.bool true) ∧ Below w.heap.size w w' := by
  have hnlt : ¬ x < x := by omega
  have HYX := Lib.hid hyx
  clear hyx
  have ek : k.tmod 101 = k % 101 := Int.tmod_eq_emod_of_nonneg k0
  have kb : 0 ≤ k % 101 ∧ k % 101 ≤ 100 := by omega
  obtain ⟨K, hK⟩ : ∃ K, k % 101 = K := ⟨_, rfl⟩
  rw [hK] at ek kb
  obtain ⟨kb0, kb1⟩ := kb
  obtain ⟨E1, E2, E3, P1, P2, P3, P4, P5, P6, P7⟩ := pc_facts x0 xy (by omega) kb0 kb1
  have SF := sh_facts x0 xy y1 n0 n1 (show 1 ≤ 1 + d by omega) (show 1 + d ≤ 65536 by omega)
  obtain ⟨V1, h1⟩ : ∃ V, pcV x K = V := ⟨_, rfl⟩
  obtain ⟨V2, h2⟩ : ∃ V, pcV y K = V := ⟨_, rfl⟩
  obtain ⟨V3, h3⟩ : ∃ V, pcV x (100 - K) = V := ⟨_, rfl⟩
  rw [h1] at P1 P2 P3 P6 P7
  rw [h2] at P1
  rw [h3] at P4 P5 P6 P7
  obtain ⟨D, hD⟩ : ∃ D, 1 + d = D := ⟨_, rfl⟩
  rw [hD] at SF
  have D0 : 1 ≤ D := by omega
  have D1 : D ≤ 65536 := by omega
  obtain ⟨S1, s1⟩ : ∃ V, shV x n D = V := ⟨_, rfl⟩
  obtain ⟨S2, s2⟩ : ∃ V, shV y n D = V := ⟨_, rfl⟩
  obtain ⟨F1, f1⟩ : ∃ V, shE x n D = V := ⟨_, rfl⟩
  obtain ⟨F2, f2⟩ : ∃ V, shE y n D = V := ⟨_, rfl⟩
  rw [s1, s2, f1, f2] at SF
  have CP1 := Lib.hid (fun W => (percent_any x K W).mono fun e w' h => (by rw [h1, E1] at h; exact h : e = .returned (.tuple #[.int .i64 V1, .int .i64 0]) ∧ W = w'))
  have CP2 := Lib.hid (fun W => (percent_any y K W).mono fun e w' h => (by rw [h2, E2] at h; exact h : e = .returned (.tuple #[.int .i64 V2, .int .i64 0]) ∧ W = w'))
  have CP3 := Lib.hid (fun W => (percent_any x (100 - K) W).mono fun e w' h => (by rw [h3, E3] at h; exact h : e = .returned (.tuple #[.int .i64 V3, .int .i64 0]) ∧ W = w'))
  have CS1 := Lib.hid (fun W => (share_any x n D W).mono fun e w' h => (by rw [s1, f1] at h; exact h : e = .returned (.tuple #[.int .i64 S1, .int .i64 F1]) ∧ W = w'))
  have CS2 := Lib.hid (fun W => (share_any y n D W).mono fun e w' h => (by rw [s2, f2] at h; exact h : e = .returned (.tuple #[.int .i64 S2, .int .i64 F2]) ∧ W = w'))
  have m1 := mul_bd x0 (show x ≤ 4294967295 by omega) n0 n1
  have m2 := mul_bd (show 0 ≤ y by omega) y1 n0 n1
  have dq1 : (x * n).tdiv D = x * n / D := Int.tdiv_eq_ediv_of_nonneg m1.1
  have dq2 : (y * n).tdiv D = y * n / D := Int.tdiv_eq_ediv_of_nonneg m2.1
  have db1 : 0 ≤ x * n / D ∧ x * n / D ≤ x * n := ⟨Int.ediv_nonneg m1.1 (by omega), Int.ediv_le_self _ m1.1⟩
  have db2 : 0 ≤ y * n / D ∧ y * n / D ≤ y * n := ⟨Int.ediv_nonneg m2.1 (by omega), Int.ediv_le_self _ m2.1⟩
  have hD0 : (D == 0) = false := by simp; omega
  have hDz : ¬ D = 0 := by omega
  obtain ⟨X, hX⟩ : ∃ X, x * n = X := ⟨_, rfl⟩
  obtain ⟨Y, hY⟩ : ∃ Y, y * n = Y := ⟨_, rfl⟩
  rw [hX] at m1 dq1 db1 SF
  rw [hY] at m2 dq2 db2 SF
  obtain ⟨Z, hZ⟩ : ∃ Z, X / D = Z := ⟨_, rfl⟩
  obtain ⟨U, hU⟩ : ∃ U, Y / D = U := ⟨_, rfl⟩
  rw [hZ] at dq1 db1 SF
  rw [hU] at dq2 db2 SF
  obtain ⟨SFx, SFy, SFo⟩ := SF
  have q1 : decide (V2 < V1) = false := by simp; omega
  have q2 : decide (x < V1) = false := by simp; omega
  have q3 : decide (x < V1 + V3) = false := by simp; omega
  have q4 : decide (V1 + V3 < x - 1) = false := by simp; omega
  have r1 : IntKind.i64.wrap (V1 + V3) = V1 + V3 := IntWalk.i64_in _ (by omega)
  have r2 : IntKind.i64.wrap (x - 1) = x - 1 := IntWalk.i64_in _ (by omega)
  clear E1 E2 E3 h1 h2 h3 s1 s2 hZ hU hK
  have f1 := Lib.hid f1
  have f2 := Lib.hid f2
  by_cases z1 : F1 = 0
  · by_cases z2 : F2 = 0
    · obtain ⟨o1, o2, o3, o4, o5, o6, o7⟩ := SFo z1 z2
      subst z1 z2
      obtain ⟨M, hM⟩ : ∃ M, S1 * D = M := ⟨_, rfl⟩
      rw [hM] at o4 o5 o6 o7
      have t1 : decide (S1 ≤ S2) = true := by simp; omega
      have t2 : decide (2 * (M - X) ≤ D) = true := by simp; omega
      have t3 : decide (2 * (X - M) < D) = true := by simp; omega
      clear SFx SFy SFo
      go_enter Try.func6, Try.ntmps6
      go_wp2_with fail
      (with_reducible refine (CP1.out _).mono ?_)
      rintro e w1 ⟨rfl, rfl⟩
      go_wp2_with fail
      (with_reducible refine (CP1.out _).mono ?_)
      rintro e w1 ⟨rfl, rfl⟩
      go_wp2_with fail
      refine (CP3.out _).mono ?_
      rintro e w1 ⟨rfl, rfl⟩
      go_wp2_with fail
      refine (CS1.out _).mono ?_
      rintro e w1 ⟨rfl, rfl⟩
      go_wp2_with fail
      refine (CS1.out _).mono ?_
      rintro e w1 ⟨rfl, rfl⟩
      go_wp2_with (go_at_call 35; refine (awake_any _).mono ?_; rintro e w1 ⟨rfl, hb⟩)
      all_goals (go_ret; exact ⟨rfl, hb⟩)
    · exfalso; rw [← f1.out] at z1; rw [← f2.out, HYX.out] at z2; exact z2 z1
  · have sx := SFx z1
    have t1 : decide (999999999999 < Z) = true := by simp; omega
    have z3 : (F1 == 0) = false := by simpa using z1
    clear SFx SFy SFo
    go_enter Try.func6, Try.ntmps6
    go_wp2_with fail
    (with_reducible refine (CP1.out _).mono ?_)
    rintro e w1 ⟨rfl, rfl⟩
    go_wp2_with fail
    (with_reducible refine (CP1.out _).mono ?_)
    rintro e w1 ⟨rfl, rfl⟩
    go_wp2_with fail
    refine (CP3.out _).mono ?_
    rintro e w1 ⟨rfl, rfl⟩
    go_wp2_with fail
    refine (CS1.out _).mono ?_
    rintro e w1 ⟨rfl, rfl⟩
    go_wp2_with fail
    refine (CS1.out _).mono ?_
    rintro e w1 ⟨rfl, rfl⟩
    go_wp2_with (go_at_call 35; refine (awake_any _).mono ?_; rintro e w1 ⟨rfl, hb⟩)
    all_goals (go_ret; exact ⟨rfl, hb⟩)
theorem shares_walk (a b k n d : Int) (w : World) (a0 : 0 ≤ a ∧ a ≤ 4294967295) (b0 : 0 ≤ b ∧ b ≤ 4294967295) (k0 : 0 ≤ k ∧ k ≤ 255) (n0 : 0 ≤ n ∧ n ≤ 65535) (d0 : 0 ≤ d ∧ d ≤ 65535) :
    Calls Try.prog 6 #[.int .u32 a, .int .u32 b, .int .u8 k, .int .u16 n, .int .u16 d] w fun e w' => e = .returned (.bool true) ∧ Below w.heap.size w w' := by
  rcases (show a < b ∨ a = b ∨ b < a by omega) with h | h | h
  · exact shares_lo a b k n d w a0.1 (by omega) b0.2 k0.1 k0.2 n0.1 n0.2 d0.1 d0.2 h (by omega) (by omega)
  · subst h; exact shares_eq a a k n d w a0.1 (Int.le_refl _) a0.2 k0.1 k0.2 n0.1 n0.2 d0.1 d0.2 rfl
  · exact shares_hi b a k n d w b0.1 (by omega) a0.2 k0.1 k0.2 n0.1 n0.2 d0.1 d0.2 h (by omega) (by omega)
end Go.Proofs.Ytkkgipcidbgbhaa
