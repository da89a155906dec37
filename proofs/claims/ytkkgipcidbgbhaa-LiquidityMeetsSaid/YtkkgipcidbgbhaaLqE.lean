/- liquidity.Right; the reference's Check and Decide. Printed by wip/gen/lqe.py. -/
import Derived.Test.YtkkgipcidbgbhaaLqD
import Derived.Test.YtkkgipcidbgbhaaLqP
import Derived.Test.YtkkgipcidbgbhaaUp
namespace Go.Proofs.Ytkkgipcidbgbhaa
open Go.RowKit
set_option linter.unusedVariables false
set_option linter.unusedSimpArgs false
theorem rt1_any (cb : Nat) (day d r p : Int) (w : World) (hc : w.cell? ⟨cb, 0, none⟩ = some (.int .i64 day)) : Calls Try.prog 66 #[.agg #[.int .i64 d, .int .i64 r, .int .i64 p], .pointer (some ⟨cb, 0, none⟩)] w fun e w' => e = .returned (.bool (decide (d = day))) ∧ Below w.heap.size w w' := by
  have hne : cb < w.heap.size := World.block_lt_of_cell? w _ hc
  by_cases h : d = day
  · subst h
    go_enter Try.func66, Try.ntmps66
    go_wp2
    go_ret
    exact ⟨by simp, bal brefl _⟩
  · go_enter Try.func66, Try.ntmps66
    go_wp2
    go_ret
    exact ⟨by simp [h], bal brefl _⟩
theorem lcE_zero {lo hi lot mr mp : Int} {n : Nat} {d a : Nat → Int} (h : lcE lo hi lot mr mp n d a = 0) : bandB lo hi lot mr mp = true ∧ (∀ j, j < n → inB (a j) (-1000000000000000) 1000000000000000 = true) ∧ ascB n d = true ∧ n ≤ 1000 := by
  unfold lcE at h
  by_cases h1 : bandB lo hi lot mr mp = true
  · rw [if_pos h1] at h
    by_cases h2 : anyB (fun j => !inB (a j) (-1000000000000000) 1000000000000000) n = true
    · rw [if_pos h2] at h; cases h
    · rw [if_neg h2] at h
      by_cases h3 : ascB n d = true
      · rw [if_pos h3] at h
        by_cases h4 : 1000 < n
        · rw [if_pos h4] at h; cases h
        · refine ⟨h1, fun j hj => ?_, h3, by omega⟩
          have := anyB_all (by simpa using h2) j hj
          simpa using this
      · rw [if_neg h3] at h; cases h
  · rw [if_neg h1] at h; cases h
set_option maxHeartbeats 1000000 in
theorem enough_any (lo hi lot mr mp n d r p : Int) (w : World) (hb : bandB lo hi lot mr mp = true) (hn0 : -1000000000000000 ≤ n) (hn1 : n ≤ 1000000000000000) :
    Calls Try.prog 68 #[.agg #[.int .i64 lo, .int .i64 hi, .int .i64 lot, .int .i64 mr, .int .i64 mp], .int .i64 n, .agg #[.int .i64 d, .int .i64 r, .int .i64 p]] w fun e w' => e = .returned (.bool (enB lo hi lot mr mp n r p)) ∧ Below w.heap.size w w' := by
  obtain ⟨a1, a2, a3, a4, a5, a6, a7, a8, a9⟩ := bandB_iff.1 hb
  obtain ⟨E, hE⟩ : ∃ E, enB lo hi lot mr mp n r p = E := ⟨_, rfl⟩
  rw [hE]
  have HE := Lib.hid hE
  clear hE hb
  have hl0 : ¬ lot = 0 := by omega
  by_cases h1 : r.tmod lot = 0
  case neg =>
    have h1' : (r.tmod lot == 0) = false := by simpa using h1
    have hf : E = false := by rw [← HE.out]; simp [enB, h1]
    subst hf
    clear HE
    go_enter Try.func68, Try.ntmps68
    go_wp2_with (first | (go_at_call 69; refine (among30_any _ _ _ _).mono ?_; rintro e w' ⟨rfl, rfl⟩) | (go_at_call 67; refine (within_any _ _ _ _ _ _ _).mono ?_; rintro e w2 ⟨rfl, hb2⟩))
    go_ret
    exact ⟨rfl, bal (bal brefl _) _⟩
  have h1' : (r.tmod lot == 0) = true := by simpa using h1
  by_cases h2 : p.tmod lot = 0
  case neg =>
    have h2' : (p.tmod lot == 0) = false := by simpa using h2
    have hf : E = false := by rw [← HE.out]; simp [enB, h1, h2]
    subst hf
    clear HE
    go_enter Try.func68, Try.ntmps68
    go_wp2_with (first | (go_at_call 69; refine (among30_any _ _ _ _).mono ?_; rintro e w' ⟨rfl, rfl⟩) | (go_at_call 67; refine (within_any _ _ _ _ _ _ _).mono ?_; rintro e w2 ⟨rfl, hb2⟩))
    go_ret
    exact ⟨rfl, bal (bal brefl _) _⟩
  have h2' : (p.tmod lot == 0) = true := by simpa using h2
  cases h3 : inB r 0 mr
  case false =>
    have hf : E = false := by rw [← HE.out]; simp [enB, h1, h2, h3]
    subst hf
    clear HE
    go_enter Try.func68, Try.ntmps68
    go_wp2_with (first | (go_at_call 69; refine (among30_any _ _ _ _).mono ?_; rintro e w' ⟨rfl, rfl⟩) | (go_at_call 67; refine (within_any _ _ _ _ _ _ _).mono ?_; rintro e w2 ⟨rfl, hb2⟩))
    go_ret
    exact ⟨rfl, bal (bal brefl _) _⟩
  cases h4 : inB p 0 mp
  case false =>
    have hf : E = false := by rw [← HE.out]; simp [enB, h1, h2, h3, h4]
    subst hf
    clear HE
    go_enter Try.func68, Try.ntmps68
    go_wp2_with (first | (go_at_call 69; refine (among30_any _ _ _ _).mono ?_; rintro e w' ⟨rfl, rfl⟩) | (go_at_call 67; refine (within_any _ _ _ _ _ _ _).mono ?_; rintro e w2 ⟨rfl, hb2⟩))
    go_ret
    exact ⟨rfl, bal (bal brefl _) _⟩
  obtain ⟨r0, r1⟩ := inB_iff.1 h3
  obtain ⟨p0, p1⟩ := inB_iff.1 h4
  by_cases h5 : r = 0
  · subst h5
    by_cases h6 : p = 0
    · subst h6
      have hf : E = false := by rw [← HE.out]; simp [enB, h1, h2, h3, h4]
      subst hf
      clear HE
      go_enter Try.func68, Try.ntmps68
      go_wp2_with (first | (go_at_call 69; refine (among30_any _ _ _ _).mono ?_; rintro e w' ⟨rfl, rfl⟩) | (go_at_call 67; refine (within_any _ _ _ _ _ _ _).mono ?_; rintro e w2 ⟨rfl, hb2⟩))
      go_ret
      exact ⟨rfl, bal (bal brefl _) _⟩
    · have h6' : (p == 0) = false := by simpa using h6
      cases h7 : inB (n + 0 - p) lo hi
      · have h7' : inB (n - p) lo hi = false := by rw [← h7]; congr 1; omega
        have hf : E = false := by rw [← HE.out]; simp [enB, h1, h2, h3, h4, h6, h7, h7']
        subst hf
        clear HE
        go_enter Try.func68, Try.ntmps68
        go_wp2_with (first | (go_at_call 69; refine (among30_any _ _ _ _).mono ?_; rintro e w' ⟨rfl, rfl⟩) | (go_at_call 67; refine (within_any _ _ _ _ _ _ _).mono ?_; rintro e w2 ⟨rfl, hb2⟩))
        go_ret
        exact ⟨by first | rfl | (rw [← h7]; congr 2; omega) | (rw [← h7', ← h7]), bup (bal (bal brefl _) _) hb2⟩
      · have h7' : inB (n - p) lo hi = true := by rw [← h7]; congr 1; omega
        have hf : E = true := by rw [← HE.out]; simp [enB, h1, h2, h3, h4, h6, h7, h7']
        subst hf
        clear HE
        go_enter Try.func68, Try.ntmps68
        go_wp2_with (first | (go_at_call 69; refine (among30_any _ _ _ _).mono ?_; rintro e w' ⟨rfl, rfl⟩) | (go_at_call 67; refine (within_any _ _ _ _ _ _ _).mono ?_; rintro e w2 ⟨rfl, hb2⟩))
        go_ret
        exact ⟨by first | rfl | (rw [← h7]; congr 2; omega) | (rw [← h7', ← h7]), bup (bal (bal brefl _) _) hb2⟩
  · have h5' : (r == 0) = false := by simpa using h5
    by_cases h6 : p = 0
    · subst h6
      cases h7 : inB (n + r - 0) lo hi
      · have h7' : inB (n + r) lo hi = false := by rw [← h7]; congr 1; omega
        have hf : E = false := by rw [← HE.out]; simp [enB, h1, h2, h3, h4, h5, h7, h7']
        subst hf
        clear HE
        go_enter Try.func68, Try.ntmps68
        go_wp2_with (first | (go_at_call 69; refine (among30_any _ _ _ _).mono ?_; rintro e w' ⟨rfl, rfl⟩) | (go_at_call 67; refine (within_any _ _ _ _ _ _ _).mono ?_; rintro e w2 ⟨rfl, hb2⟩))
        go_ret
        exact ⟨by first | rfl | (rw [← h7]; congr 2; omega) | (rw [← h7', ← h7]), bup (bal (bal brefl _) _) hb2⟩
      · have h7' : inB (n + r) lo hi = true := by rw [← h7]; congr 1; omega
        have hf : E = true := by rw [← HE.out]; simp [enB, h1, h2, h3, h4, h5, h7, h7']
        subst hf
        clear HE
        go_enter Try.func68, Try.ntmps68
        go_wp2_with (first | (go_at_call 69; refine (among30_any _ _ _ _).mono ?_; rintro e w' ⟨rfl, rfl⟩) | (go_at_call 67; refine (within_any _ _ _ _ _ _ _).mono ?_; rintro e w2 ⟨rfl, hb2⟩))
        go_ret
        exact ⟨by first | rfl | (rw [← h7]; congr 2; omega) | (rw [← h7', ← h7]), bup (bal (bal brefl _) _) hb2⟩
    · have h6' : (p == 0) = false := by simpa using h6
      have hf : E = false := by rw [← HE.out]; simp [enB, h1, h2, h3, h4, h5, h6]
      subst hf
      clear HE
      go_enter Try.func68, Try.ntmps68
      go_wp2_with (first | (go_at_call 69; refine (among30_any _ _ _ _).mono ?_; rintro e w' ⟨rfl, rfl⟩) | (go_at_call 67; refine (within_any _ _ _ _ _ _ _).mono ?_; rintro e w2 ⟨rfl, hb2⟩))
      go_ret
      exact ⟨rfl, bal (bal brefl _) _⟩
end Go.Proofs.Ytkkgipcidbgbhaa
