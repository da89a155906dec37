/- LiquidityWider. -/
import Derived.Test.YtmobjmgiilbbdaaL30Least
namespace Go.Proofs.Ytmobjmgiilbbdaa
open Go.RowKit

section
variable {lo hi lot mr mp a : Int}
/-- what is decided is the least that is enough, for any right band -/
theorem dec_least' (hb : bandB lo hi lot mr mp = true) (ha : inB a (-1000000000000000) 1000000000000000 = true) :
    (decO lo hi lot mr mp a = true ∧ Good lo hi mr mp a (decR lo hi lot mr mp a + decP lo hi lot mr mp a) ∧ (∃ i : Nat, decR lo hi lot mr mp a + decP lo hi lot mr mp a = i * lot) ∧ (∀ j : Nat, Good lo hi mr mp a (j * lot) → decR lo hi lot mr mp a + decP lo hi lot mr mp a ≤ j * lot) ∧
      (decR lo hi lot mr mp a = 0 ∨ decP lo hi lot mr mp a = 0) ∧ 0 ≤ decR lo hi lot mr mp a ∧ decR lo hi lot mr mp a ≤ mr ∧ 0 ≤ decP lo hi lot mr mp a ∧ decP lo hi lot mr mp a ≤ mp) ∨
    (decO lo hi lot mr mp a = false ∧ decR lo hi lot mr mp a = 0 ∧ decP lo hi lot mr mp a = 0 ∧ ∀ j : Nat, ¬ Good lo hi mr mp a (j * lot)) := by
  obtain ⟨a1, a2, a3, a5, a6, a7, a8, a9, a10⟩ := bandB_iff.1 hb
  obtain ⟨g1, g2, g3⟩ := dec_good lo hi lot mr mp a (by rw [hb, ha]; rfl)
  have ha' := inB_iff.1 ha
  rw [g1, g2, g3]
  clear g1 g2 g3
  have hj0 : ∀ j : Nat, 0 ≤ (j : Int) * lot := fun j => Int.mul_nonneg (by omega) (by omega)
  by_cases h1 : a < lo
  · rw [if_pos h1, if_pos h1, if_neg (show ¬ hi < a by omega)]
    have c := ceil_bd (lo - a) lot a5
    by_cases h2 : (lo - a + lot - 1) / lot * lot ≤ mr ∧ a + (lo - a + lot - 1) / lot * lot ≤ hi
    · rw [if_pos h2]
      refine .inl ⟨by simp [h2], .inl (by omega), ?_, ?_, .inr rfl, by omega, by omega, by omega, by omega⟩
      · obtain ⟨i, hi⟩ := ceil_mul (lot := lot) (d := lo - a) (by omega) a5
        exact ⟨i, by rw [hi]; omega⟩
      · intro j hg
        have := hj0 j
        have := ceil_least (lot := lot) (d := lo - a) (j := j) a5 (by unfold Good at hg; omega)
        omega
    · rw [if_neg h2]
      refine .inr ⟨by simpa using h2, rfl, rfl, fun j hg => h2 ?_⟩
      have := hj0 j
      have := ceil_least (lot := lot) (d := lo - a) (j := j) a5 (by unfold Good at hg; omega)
      unfold Good at hg
      omega
  · rw [if_neg h1, if_neg h1]
    by_cases h3 : hi < a
    · rw [if_pos h3, if_pos h3]
      have c := ceil_bd (a - hi) lot a5
      by_cases h2 : (a - hi + lot - 1) / lot * lot ≤ mp ∧ lo ≤ a - (a - hi + lot - 1) / lot * lot
      · rw [if_pos h2]
        refine .inl ⟨by simp [h2], .inr (by omega), ?_, ?_, .inl rfl, by omega, by omega, by omega, by omega⟩
        · obtain ⟨i, hi⟩ := ceil_mul (lot := lot) (d := a - hi) (by omega) a5
          exact ⟨i, by rw [hi]; omega⟩
        · intro j hg
          have := hj0 j
          have := ceil_least (lot := lot) (d := a - hi) (j := j) a5 (by unfold Good at hg; omega)
          omega
      · rw [if_neg h2]
        refine .inr ⟨by simpa using h2, rfl, rfl, fun j hg => h2 ?_⟩
        have := hj0 j
        have := ceil_least (lot := lot) (d := a - hi) (j := j) a5 (by unfold Good at hg; omega)
        unfold Good at hg
        omega
    · rw [if_neg h3, if_neg h3]
      refine .inl ⟨rfl, .inl (by omega), ⟨0, by simp⟩, fun j _ => by have := hj0 j; omega, .inl rfl, by omega, by omega, by omega, by omega⟩


theorem good_wider {x : Int} (h : 0 ≤ x) {n : Int} (hg : Good lo hi mr mp a n) : Good (lo - x % 7) (hi + x) (mr + x) (mp + x) a n := by
  unfold Good at *
  have := Int.emod_nonneg x (show (7 : Int) ≠ 0 by omega)
  omega
/-- the lot of the wider band -/
theorem dec_wider {x lot' : Int} (hb : BandLike lo hi lot mr mp) (ha : -300 ≤ a) (ha2 : a ≤ 300) (h0 : 0 ≤ x) (h1 : x ≤ 255) (hl : 1 ≤ lot') (hk : ∃ q : Nat, lot = q * lot') (ho : decO lo hi lot mr mp a = true) :
    decO (lo - x % 7) (hi + x) lot' (mr + x) (mp + x) a = true ∧
    decR (lo - x % 7) (hi + x) lot' (mr + x) (mp + x) a + decP (lo - x % 7) (hi + x) lot' (mr + x) (mp + x) a ≤ decR lo hi lot mr mp a + decP lo hi lot mr mp a := by
  obtain ⟨a1, a2, a3, a4, a5, a6, a7, a8, a9, a10⟩ := bandLike_bd hb
  obtain ⟨q, hq⟩ := hk
  have hm := Int.emod_nonneg x (show (7 : Int) ≠ 0 by omega)
  have hm2 := Int.emod_lt_of_pos x (show (0 : Int) < 7 by omega)
  have hl2 : lot' ≤ 25 := by
    have : 1 ≤ (q : Int) := by
      rcases Nat.eq_zero_or_pos q with h | h
      · subst h; simp at hq; omega
      · omega
    have := Int.mul_le_mul_of_nonneg_right (c := lot') this (by omega)
    omega
  rcases dec_least' (bandB_iff.2 (by omega)) (inB_iff.2 (by omega)) (lo := lo) (hi := hi) (lot := lot) (mr := mr) (mp := mp) (a := a) with ⟨o1, o2, ⟨i, o3⟩, o4, _⟩ | ⟨o1, _⟩
  · have hg := good_wider h0 o2
    have e : decR lo hi lot mr mp a + decP lo hi lot mr mp a = ((i * q : Nat) : Int) * lot' := by
      rw [o3, hq, Int.natCast_mul, Int.mul_assoc]
    rcases dec_least' (bandB_iff.2 (by omega)) (inB_iff.2 (by omega)) (lo := lo - x % 7) (hi := hi + x) (lot := lot') (mr := mr + x) (mp := mp + x) (a := a) with ⟨p1, p2, _, p4, _⟩ | ⟨p1, p2, p3, p4⟩
    · exact ⟨p1, by rw [e]; exact p4 _ (by rw [← e]; exact hg)⟩
    · exact absurd (by rw [← e]; exact hg) (p4 (i * q))
  · rw [ho] at o1; cases o1
theorem dec_bd (hb : bandB lo hi lot mr mp = true) (ha : inB a (-1000000000000000) 1000000000000000 = true) : 0 ≤ decR lo hi lot mr mp a ∧ decR lo hi lot mr mp a ≤ mr ∧ 0 ≤ decP lo hi lot mr mp a ∧ decP lo hi lot mr mp a ≤ mp := by
  obtain ⟨a1, a2, a3, a5, a6, a7, a8, a9, a10⟩ := bandB_iff.1 hb
  rcases dec_least' hb ha with ⟨_, _, _, _, _, h⟩ | ⟨_, h1, h2, _⟩
  · exact h
  · omega
end

set_option maxHeartbeats 2000000 in
theorem wider_walk (a0 : Option Addr) (len0 cap0 : Nat) (x : Int) (w : World) (h1 : len0 ≤ cap0) (h2 : cap0 ≤ maxLen) (hz : len0 = 0 ∨ ∃ b off, a0 = some ⟨b, off, none⟩ ∧ ∀ i, i < len0 → ∃ z : Int, w.cell? ⟨b, off + i, none⟩ = some (.int .i64 z)) (hx0 : 0 ≤ x) (hx1 : x ≤ 255) :
    Calls Try.prog 4 #[.slice a0 len0 cap0, .int .u8 x] w fun e w' => e = .returned (.bool true) ∧ Below w.heap.size w w' := by
  go_enter Try.func4, Try.ntmps4
  go_wp2_with fail
  refine (new_any a0 len0 cap0 w h1 h2 hz).mono ?_
  rintro e w1 ⟨sb, rfl, hsb, hS1, hB1⟩
  clear hz
  go_wp2_with fail
  refine (band_any sb _ hS1).mono ?_
  rintro e w2 ⟨lo, hi, lot, mr, mp, hband, rfl, hS2, hG2⟩
  obtain ⟨a1, a2, a3, a4, a5, a6, a7, a8, a9, a10⟩ := bandLike_bd hband
  have hB2 : Below w.heap.size w w2 := hB1.trans (below_of_grown hG2 hsb hB1.size)
  have HBD := Lib.hid hband
  clear hband hB1 hG2
  go_wp2_with fail
  refine (range_any sb _ _ _ (srcOk_alloc hS2 _) (by omega) (by omega) (by omega)).mono ?_
  rintro e w3 ⟨am, ⟨m0, m1⟩, rfl, hS3, hG3⟩
  have hlt := srcOk_lt hS2
  have k0 := box_cell hG3 hlt 0 rfl
  have k1 := box_cell hG3 hlt 1 rfl
  have k2 := box_cell hG3 hlt 2 rfl
  have k3 := box_cell hG3 hlt 3 rfl
  have k4 := box_cell hG3 hlt 4 rfl
  have z3 : w2.heap.size < w3.heap.size := by have := hG3.size; simp at this; omega
  have hB3 : Below w.heap.size w w3 := (hB2.alloc hB2.size _).trans (below_of_grown hG3 hsb (by have := hB2.size; simp; omega))
  clear hG3 hB2
  go_wp2_with fail
  refine (decide_any lo hi lot mr mp am _).mono ?_
  rintro e w4 ⟨rfl, hb4⟩
  obtain ⟨hc4, hf4⟩ := bcell hb4
  have z4 := hb4.size
  have hB4 := below_up' hB3 hb4
  clear hB3 hb4
  go_wp2_with fail
  · have h5 : lot % 5 = 0 := by simpa using (by assumption : (lot % 5 == 0) = true)
    have hq : ∃ q : Nat, lot = q * (lot / 5) := ⟨5, by omega⟩
    have hl : 1 ≤ lot / 5 := by omega
    have hd := fun h => dec_wider (lot' := lot / 5) HBD.out m0 m1 hx0 hx1 hl hq h
    have d1 := dec_bd (bandB_iff.2 (show _ by omega)) (inB_iff.2 (show _ by omega)) (lo := lo) (hi := hi) (lot := lot) (mr := mr) (mp := mp) (a := am)
    have d2 := dec_bd (bandB_iff.2 (show _ by omega)) (inB_iff.2 (show _ by omega)) (lo := lo - x % 7) (hi := hi + x) (lot := lot / 5) (mr := mr + x) (mp := mp + x) (a := am)
    refine (decide_any _ _ _ _ _ am _).mono ?_
    rintro e w5 ⟨rfl, hb5⟩
    have hB5 := below_up' (hB4.alloc (by have := hB4.size; omega) _) hb5
    clear hB4 hb5 hq
    by_cases ho : decO lo hi lot mr mp am = true
    · obtain ⟨p1, p2⟩ := hd ho
      clear hd
      go_wp2_with (go_at_call 13; refine (sane30_any _).mono ?_; rintro e w6 ⟨rfl, hb6⟩)
      go_ret
      exact ⟨rfl, below_up' hB5 (by assumption)⟩
    · have ho' : decO lo hi lot mr mp am = false := by simpa using ho
      clear hd ho
      go_wp2_with (go_at_call 13; refine (sane30_any _).mono ?_; rintro e w6 ⟨rfl, hb6⟩)
      go_ret
      exact ⟨rfl, below_up' hB5 (by assumption)⟩
  · have hq : ∃ q : Nat, lot = q * (lot) := ⟨1, by simp⟩
    have hl : 1 ≤ lot := by omega
    have hd := fun h => dec_wider (lot' := lot) HBD.out m0 m1 hx0 hx1 hl hq h
    have d1 := dec_bd (bandB_iff.2 (show _ by omega)) (inB_iff.2 (show _ by omega)) (lo := lo) (hi := hi) (lot := lot) (mr := mr) (mp := mp) (a := am)
    have d2 := dec_bd (bandB_iff.2 (show _ by omega)) (inB_iff.2 (show _ by omega)) (lo := lo - x % 7) (hi := hi + x) (lot := lot) (mr := mr + x) (mp := mp + x) (a := am)
    refine (decide_any _ _ _ _ _ am _).mono ?_
    rintro e w5 ⟨rfl, hb5⟩
    have hB5 := below_up' (hB4.alloc (by have := hB4.size; omega) _) hb5
    clear hB4 hb5 hq
    by_cases ho : decO lo hi lot mr mp am = true
    · obtain ⟨p1, p2⟩ := hd ho
      clear hd
      go_wp2_with (go_at_call 13; refine (sane30_any _).mono ?_; rintro e w6 ⟨rfl, hb6⟩)
      go_ret
      exact ⟨rfl, below_up' hB5 (by assumption)⟩
    · have ho' : decO lo hi lot mr mp am = false := by simpa using ho
      clear hd ho
      go_wp2_with (go_at_call 13; refine (sane30_any _).mono ?_; rintro e w6 ⟨rfl, hb6⟩)
      go_ret
      exact ⟨rfl, below_up' hB5 (by assumption)⟩
end Go.Proofs.Ytmobjmgiilbbdaa
