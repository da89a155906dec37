/- LiquidityLeast. -/
import Derived.Test.YtmobjmgiilbbdaaLiq
import Derived.Test.YtmobjmgiilbbdaaBand
namespace Go.Proofs.Ytmobjmgiilbbdaa
open Go.RowKit
set_option linter.unusedVariables false

theorem law30lots_any (w : World) : Calls Try.prog 34 #[] w fun e w' => e = .returned (.agg #[.int .i64 0, .int .i64 10, .int .i64 4, .int .i64 100, .int .i64 100]) ∧ Below w.heap.size w w' := by
  go_enter Try.func34, Try.ntmps34
  go_wp2
  exact bodyPost_ret (v := .agg #[.int .i64 0, .int .i64 10, .int .i64 4, .int .i64 100, .int .i64 100]) (by simp [results, Try.results34, go_sem]) rfl ⟨rfl, (Below.refl _ _).alloc (Nat.le_refl _) _⟩

theorem below_up {w w1 w2 : World} (h : Below w.heap.size w w1) (k : Below w1.heap.size w1 w2) : Below w.heap.size w w2 := h.trans (k.mono h.size)

set_option maxHeartbeats 400000 in
theorem sane30_any (w : World) : Calls Try.prog 13 #[] w fun e w' => e = .returned (.bool true) ∧ Below w.heap.size w w' := by
  have d1 : decR 0 10 4 100 100 (-5) = 8 ∧ decP 0 10 4 100 100 (-5) = 0 ∧ decO 0 10 4 100 100 (-5) = true := by decide
  have d2 : decR 0 10 4 100 100 15 = 0 ∧ decP 0 10 4 100 100 15 = 8 ∧ decO 0 10 4 100 100 15 = true := by decide
  have d3 : bandE 0 10 4 100 100 = 0 := by decide
  have D1 := Lib.hid d1
  have D2 := Lib.hid d2
  have D3 := Lib.hid d3
  clear d1 d2 d3
  go_enter Try.func13, Try.ntmps13
  go_wp2_with fail
  refine (law30lots_any _).mono ?_
  rintro e w1 ⟨rfl, hb1⟩
  go_wp2_with fail
  refine (decide_any _ _ _ _ _ _ _).mono ?_
  rw [D1.out.1, D1.out.2.1, D1.out.2.2]
  rintro e w2 ⟨rfl, hb2⟩
  go_wp2_with fail
  refine (law30lots_any _).mono ?_
  rintro e w3 ⟨rfl, hb3⟩
  go_wp2_with fail
  refine (decide_any _ _ _ _ _ _ _).mono ?_
  rw [D2.out.1, D2.out.2.1, D2.out.2.2]
  rintro e w4 ⟨rfl, hb4⟩
  go_wp2_with fail
  refine (law30lots_any _).mono ?_
  rintro e w5 ⟨rfl, hb5⟩
  go_wp2_with fail
  refine (liqcheck_any _ _ _ _ _ _).mono ?_
  rw [D3.out]
  rintro e w6 ⟨rfl, hb6⟩
  go_wp2
  go_ret
  exact ⟨rfl, below_up (below_up (below_up (below_up (below_up hb1 hb2) hb3) hb4) hb5) hb6⟩

/-- n is enough for the amount a -/
def Good (lo hi mr mp a n : Int) : Prop := (n ≤ mr ∧ lo ≤ a + n ∧ a + n ≤ hi) ∨ (n ≤ mp ∧ lo ≤ a - n ∧ a - n ≤ hi)
structure LInv (lo hi lot mr mp a bv m : Int) : Prop where
  m0 : 0 ≤ m
  m1 : m ≤ 1025
  mul : ∃ i : Nat, m = i * lot
  st : (bv = -1 ∧ ∀ j : Nat, (j : Int) * lot < m → ¬ Good lo hi mr mp a (j * lot)) ∨ (0 ≤ bv ∧ bv ≤ 1000 ∧ Good lo hi mr mp a bv ∧ (∃ i : Nat, bv = i * lot) ∧ ∀ j : Nat, (j : Int) * lot < bv → ¬ Good lo hi mr mp a (j * lot))

section
variable {lo hi lot mr mp a bv m : Int}
theorem bandLike_bd (h : BandLike lo hi lot mr mp) : -50 ≤ lo ∧ lo ≤ 20 ∧ lo ≤ hi ∧ hi ≤ lo + 100 ∧ 1 ≤ lot ∧ lot ≤ 25 ∧ 0 ≤ mr ∧ mr ≤ 1000 ∧ 0 ≤ mp ∧ mp ≤ 1000 := by
  obtain ⟨h1, h2, h3, h4, h5⟩ := h
  simp at h1 h2 h3 h4 h5
  omega
theorem mul_step {i : Nat} {lot m : Int} (h : m = i * lot) : m + lot = ((i + 1 : Nat) : Int) * lot := by
  rw [h]
  have : ((i + 1 : Nat) : Int) = (i : Int) + 1 := by omega
  rw [this, Int.add_mul, Int.one_mul]
theorem mul_lt_step {i j : Nat} {lot : Int} (h1 : 1 ≤ lot) (h : (j : Int) * lot < (i : Int) * lot + lot) : j ≤ i := by
  rcases Nat.lt_or_ge i j with hlt | hge
  · have : ((i + 1 : Nat) : Int) * lot ≤ (j : Int) * lot := Int.mul_le_mul_of_nonneg_right (by omega) (by omega)
    have e := mul_step (i := i) (lot := lot) rfl
    omega
  · exact hge
theorem linv_start (hl : 1 ≤ lot) : LInv lo hi lot mr mp a (-1) 0 := ⟨by omega, by omega, ⟨0, by simp⟩, .inl ⟨rfl, fun j hj => by
  have : 0 ≤ (j : Int) * lot := Int.mul_nonneg (by omega) (by omega)
  omega⟩⟩
theorem linv_hit (h : LInv lo hi lot mr mp a bv m) (hl : 1 ≤ lot) (hl2 : lot ≤ 25) (h1 : m ≤ 1000) (h2 : bv < 0) (hg : Good lo hi mr mp a m) : LInv lo hi lot mr mp a m (m + lot) := by
  obtain ⟨m0, _, ⟨i, hi⟩, st⟩ := h
  refine ⟨by omega, by omega, ⟨i + 1, mul_step hi⟩, .inr ⟨m0, h1, hg, ⟨i, hi⟩, ?_⟩⟩
  rcases st with ⟨_, st⟩ | ⟨hb, _⟩
  · exact st
  · omega
theorem linv_miss (h : LInv lo hi lot mr mp a bv m) (hl : 1 ≤ lot) (hl2 : lot ≤ 25) (h1 : m ≤ 1000) (h2 : bv < 0) (hg : ¬ Good lo hi mr mp a m) : LInv lo hi lot mr mp a bv (m + lot) := by
  obtain ⟨m0, _, ⟨i, hi⟩, st⟩ := h
  refine ⟨by omega, by omega, ⟨i + 1, mul_step hi⟩, .inl ?_⟩
  rcases st with ⟨hb, st⟩ | ⟨hb, _⟩
  · refine ⟨hb, fun j hj => ?_⟩
    rcases Nat.lt_or_ge j i with hlt | hge
    · apply st
      have : (j : Int) * lot < i * lot := Int.mul_lt_mul_of_pos_right (by omega) (by omega)
      omega
    · have : j = i := by rw [hi] at hj; have := mul_lt_step hl hj; omega
      rw [this, ← hi]
      exact hg
  · omega
theorem ceil_least {d : Int} {j : Nat} (hl : 1 ≤ lot) (h : d ≤ j * lot) : (d + lot - 1) / lot * lot ≤ j * lot := by
  have hb := ceil_bd d lot hl
  have e : (d + lot - 1) / lot ≤ j := by
    have : (d + lot - 1) / lot < (j : Int) + 1 := Int.ediv_lt_of_lt_mul (by omega) (by rw [Int.add_mul, Int.one_mul]; omega)
    omega
  exact Int.mul_le_mul_of_nonneg_right e (by omega)
theorem ceil_mul {d : Int} (hd : 0 ≤ d) (hl : 1 ≤ lot) : ∃ i : Nat, (d + lot - 1) / lot * lot = i * lot := by
  have : 0 ≤ (d + lot - 1) / lot := Int.ediv_nonneg (by omega) (by omega)
  exact ⟨((d + lot - 1) / lot).toNat, by rw [Int.toNat_of_nonneg this]⟩

/-- what is decided is the least that is enough -/
theorem dec_least (hb : BandLike lo hi lot mr mp) (ha : -300 ≤ a) (ha2 : a ≤ 300) :
    (decO lo hi lot mr mp a = true ∧ Good lo hi mr mp a (decR lo hi lot mr mp a + decP lo hi lot mr mp a) ∧ (∃ i : Nat, decR lo hi lot mr mp a + decP lo hi lot mr mp a = i * lot) ∧ (∀ j : Nat, Good lo hi mr mp a (j * lot) → decR lo hi lot mr mp a + decP lo hi lot mr mp a ≤ j * lot) ∧
      (decR lo hi lot mr mp a = 0 ∨ decP lo hi lot mr mp a = 0) ∧ 0 ≤ decR lo hi lot mr mp a ∧ decR lo hi lot mr mp a ≤ 1000 ∧ 0 ≤ decP lo hi lot mr mp a ∧ decP lo hi lot mr mp a ≤ 1000) ∨
    (decO lo hi lot mr mp a = false ∧ decR lo hi lot mr mp a = 0 ∧ decP lo hi lot mr mp a = 0 ∧ ∀ j : Nat, ¬ Good lo hi mr mp a (j * lot)) := by
  obtain ⟨a1, a2, a3, a4, a5, a6, a7, a8, a9, a10⟩ := bandLike_bd hb
  obtain ⟨g1, g2, g3⟩ := dec_good lo hi lot mr mp a (by rw [Bool.and_eq_true, bandB_iff, inB_iff]; omega)
  rw [g1, g2, g3]
  clear g1 g2 g3
  have hj0 : ∀ j : Nat, 0 ≤ (j : Int) * lot := fun j => Int.mul_nonneg (by omega) (by omega)
  by_cases h1 : a < lo
  · rw [if_pos h1, if_pos h1, if_neg (show ¬ hi < a by omega)]
    have c := ceil_bd (lo - a) lot a5
    by_cases h2 : (lo - a + lot - 1) / lot * lot ≤ mr ∧ a + (lo - a + lot - 1) / lot * lot ≤ hi
    · rw [if_pos h2]
      refine .inl ⟨by simp [h2], .inl (by omega), ?_, ?_, .inr rfl, by omega, by omega, by omega, by omega⟩
      · obtain ⟨i, hi⟩ := ceil_mul (lot := lot) (d := lo - a) (by omega) a5
        exact ⟨i, by rw [hi]; omega⟩
      · intro j hg
        have := hj0 j
        have := ceil_least (lot := lot) (d := lo - a) (j := j) a5 (by unfold Good at hg; omega)
        omega
    · rw [if_neg h2]
      refine .inr ⟨by simpa using h2, rfl, rfl, fun j hg => h2 ?_⟩
      have := hj0 j
      have := ceil_least (lot := lot) (d := lo - a) (j := j) a5 (by unfold Good at hg; omega)
      unfold Good at hg
      omega
  · rw [if_neg h1, if_neg h1]
    by_cases h3 : hi < a
    · rw [if_pos h3, if_pos h3]
      have c := ceil_bd (a - hi) lot a5
      by_cases h2 : (a - hi + lot - 1) / lot * lot ≤ mp ∧ lo ≤ a - (a - hi + lot - 1) / lot * lot
      · rw [if_pos h2]
        refine .inl ⟨by simp [h2], .inr (by omega), ?_, ?_, .inl rfl, by omega, by omega, by omega, by omega⟩
        · obtain ⟨i, hi⟩ := ceil_mul (lot := lot) (d := a - hi) (by omega) a5
          exact ⟨i, by rw [hi]; omega⟩
        · intro j hg
          have := hj0 j
          have := ceil_least (lot := lot) (d := a - hi) (j := j) a5 (by unfold Good at hg; omega)
          omega
      · rw [if_neg h2]
        refine .inr ⟨by simpa using h2, rfl, rfl, fun j hg => h2 ?_⟩
        have := hj0 j
        have := ceil_least (lot := lot) (d := a - hi) (j := j) a5 (by unfold Good at hg; omega)
        unfold Good at hg
        omega
    · rw [if_neg h3, if_neg h3]
      refine .inl ⟨rfl, .inl (by omega), ⟨0, by simp⟩, fun j _ => by have := hj0 j; omega, .inl rfl, by omega, by omega, by omega, by omega⟩

theorem linv_end (h : LInv lo hi lot mr mp a bv m) (hb : BandLike lo hi lot mr mp) (ha : -300 ≤ a) (ha2 : a ≤ 300) (he : 1000 < m ∨ 0 ≤ bv) :
    (decO lo hi lot mr mp a = true ∧ decR lo hi lot mr mp a + decP lo hi lot mr mp a = bv ∧ (decR lo hi lot mr mp a = 0 ∨ decP lo hi lot mr mp a = 0) ∧ 0 ≤ decR lo hi lot mr mp a ∧ decR lo hi lot mr mp a ≤ 1000 ∧ 0 ≤ decP lo hi lot mr mp a ∧ decP lo hi lot mr mp a ≤ 1000) ∨
    (decO lo hi lot mr mp a = false ∧ bv < 0 ∧ decR lo hi lot mr mp a = 0 ∧ decP lo hi lot mr mp a = 0) := by
  obtain ⟨m0, m1, mul, st⟩ := h
  rcases dec_least hb ha ha2 with ⟨o1, o2, ⟨i, o3⟩, o4, o5, o6, o7, o8, o9⟩ | ⟨o1, o2, o3, o4⟩
  · refine .inl ⟨o1, ?_, o5, o6, o7, o8, o9⟩
    rcases st with ⟨s1, s2⟩ | ⟨s1, s2, s3, ⟨k, s4⟩, s5⟩
    · exact absurd (by rw [← o3]; exact o2) (s2 i (by omega))
    · have := o4 k (by rw [← s4]; exact s3)
      rcases Int.lt_or_eq_of_le this with h | h
      · exact absurd (by rw [← o3]; exact o2) (s5 i (by omega))
      · omega
  · refine .inr ⟨o1, ?_, o2, o3⟩
    rcases st with ⟨s1, s2⟩ | ⟨s1, s2, s3, ⟨k, s4⟩, s5⟩
    · omega
    · exact absurd (by rw [← s4]; exact s3) (o4 k)
end

theorem below_up' {B : Nat} {w w1 w2 : World} (h : Below B w w1) (k : Below w1.heap.size w1 w2) (hB : B ≤ w.heap.size := by omega) : Below B w w2 := h.trans (k.mono (Nat.le_trans hB h.size))
set_option maxHeartbeats 2000000 in
theorem least_walk (a0 : Option Addr) (len0 cap0 : Nat) (w : World) (h1 : len0 ≤ cap0) (h2 : cap0 ≤ maxLen) (hz : len0 = 0 ∨ ∃ b off, a0 = some ⟨b, off, none⟩ ∧ ∀ i, i < len0 → ∃ z : Int, w.cell? ⟨b, off + i, none⟩ = some (.int .i64 z)) :
    Calls Try.prog 3 #[.slice a0 len0 cap0] w fun e w' => e = .returned (.bool true) ∧ Below w.heap.size w w' := by
  go_enter Try.func3, Try.ntmps3
  go_wp2_with fail
  refine (new_any a0 len0 cap0 w h1 h2 hz).mono ?_
  rintro e w1 ⟨sb, rfl, hsb, hS1, hB1⟩
  clear hz
  go_wp2_with fail
  refine (band_any sb _ hS1).mono ?_
  rintro e w2 ⟨lo, hi, lot, mr, mp, hband, rfl, hS2, hG2⟩
  obtain ⟨a1, a2, a3, a4, a5, a6, a7, a8, a9, a10⟩ := bandLike_bd hband
  have hB2 : Below w.heap.size w w2 := hB1.trans (below_of_grown hG2 hsb hB1.size)
  have HBD := Lib.hid hband
  clear hband hB1 hG2
  go_wp2_with fail
  refine (range_any sb _ _ _ (srcOk_alloc hS2 _) (by omega) (by omega) (by omega)).mono ?_
  rintro e w3 ⟨am, ⟨m0, m1⟩, rfl, hS3, hG3⟩
  have hlt := srcOk_lt hS2
  have k0 := box_cell hG3 hlt 0 rfl
  have k1 := box_cell hG3 hlt 1 rfl
  have k2 := box_cell hG3 hlt 2 rfl
  have k3 := box_cell hG3 hlt 3 rfl
  have k4 := box_cell hG3 hlt 4 rfl
  have z3 : w2.heap.size < w3.heap.size := by have := hG3.size; simp at this; omega
  have hB3 : Below w.heap.size w w3 := (hB2.alloc hB2.size _).trans (below_of_grown hG3 hsb (by have := hB2.size; simp; omega))
  clear hG3 hB2
  go_wp2_with fail
  refine (decide_any lo hi lot mr mp am _).mono ?_
  rintro e w4 ⟨rfl, hb4⟩
  obtain ⟨hc4, hf4⟩ := bcell hb4
  have hB4 := below_up' hB3 hb4
  clear hB3 hb4
  go_wp2_with fail
  go_loop [9, 10] (fun b n => ∃ bv m : Int, b = .int .i64 bv ∧ n = .int .i64 m ∧ LInv lo hi lot mr mp am bv m) (fun _ n => (1026 - intOf n).toNat)
  case atStart => exact ⟨-1, 0, rfl, rfl, linv_start a5⟩
  case round =>
    obtain ⟨bv, m, rfl, rfl, hI⟩ := hrel
    have q0 := hI.m0
    have q1 := hI.m1
    have HI := Lib.hid hI
    clear hI
    by_cases hx : m ≤ 1000 ∧ bv < 0
    · obtain ⟨x1, x2⟩ := hx
      go_wp2_with fail
      all_goals
        go_round
        case rel => first | exact ⟨m, m + lot, rfl, rfl, linv_hit HI.out a5 a6 x1 x2 (by unfold Good; omega)⟩ | exact ⟨bv, m + lot, rfl, rfl, linv_miss HI.out a5 a6 x1 x2 (by unfold Good; omega)⟩
        case measure => simp [intOf]; omega
    · rcases linv_end HI.out HBD.out m0 m1 (by omega) with ⟨o1, o2, o3, o4, o5, o6, o7⟩ | ⟨o1, o2, o3, o4⟩
      · rcases o3 with o3 | o3
        · have o2' : decP lo hi lot mr mp am = bv := by omega
          clear o2
          rcases (show 1000 < m ∨ (m ≤ 1000 ∧ 0 ≤ bv) by omega) with x1 | ⟨x1, x2⟩
          all_goals
            clear hx
            go_wp2_with (go_at_call 13; refine (sane30_any _).mono ?_; rintro e w5 ⟨rfl, hb5⟩)
            all_goals
              go_ret
              exact ⟨rfl, below_up' hB4 (by assumption)⟩
        · have o2' : decR lo hi lot mr mp am = bv := by omega
          clear o2
          rcases (show 1000 < m ∨ (m ≤ 1000 ∧ 0 ≤ bv) by omega) with x1 | ⟨x1, x2⟩
          all_goals
            clear hx
            go_wp2_with (go_at_call 13; refine (sane30_any _).mono ?_; rintro e w5 ⟨rfl, hb5⟩)
            all_goals
              go_ret
              exact ⟨rfl, below_up' hB4 (by assumption)⟩
      · have x1 : 1000 < m := by omega
        clear hx
        go_wp2_with (go_at_call 13; refine (sane30_any _).mono ?_; rintro e w5 ⟨rfl, hb5⟩)
        go_ret
        exact ⟨rfl, below_up' hB4 (by assumption)⟩
end Go.Proofs.Ytmobjmgiilbbdaa
