/- CouponDays. -/
import Derived.Test.YtkbkohkhpmpddaaL34Parts
namespace Go.Proofs.Ytkbkohkhpmpddaa
open Go.RowKit
set_option linter.unusedVariables false

/-- a cell of a slice of coupon days -/
theorem sl_cell {w : World} {P : Nat → Prop} {ao : Option Addr} {c n : Nat} {xs : List Value} (h : n ≤ c ∧ c ≤ maxLen ∧ (xs = [] ∨ ∃ b off, ao = some ⟨b, off, none⟩ ∧ P b ∧ ∀ j, (h : j < xs.length) → w.cell? ⟨b, off + j, none⟩ = some xs[j])) (hn : 0 < xs.length) :
    ∃ b off, ao = some ⟨b, off, none⟩ ∧ P b ∧ ∀ j, (h : j < xs.length) → w.cell? ⟨b, off + j, none⟩ = some xs[j] := by
  obtain ⟨_, _, h⟩ := h
  rcases h with h | h
  · subst h; simp at hn
  · exact h
theorem dayN_eq {id un is ma ra ev : Int} (hs : SecOk id un is ma ra ev) (h : ev ≠ 0) : dayN id un is ma ra ev = ((ma - is) / (30 * ev)).toNat := by simp [dayN, secB_iff.2 hs, h]
theorem dayN_zero {id un is ma ra ev : Int} (h : ev = 0) : dayN id un is ma ra ev = 0 := by simp [dayN, h]
/-- the last coupon day is the maturity -/
theorem dayN_last {id un is ma ra ev : Int} (hs : SecOk id un is ma ra ev) (h : ev ≠ 0) : 1 ≤ dayN id un is ma ra ev ∧ (dayN id un is ma ra ev : Int) * (30 * ev) = ma - is ∧ dayN id un is ma ra ev ≤ 600 := by
  have hev := hs.ev
  have h1 := hs.ma0
  have h2 := hs.ma1
  rw [dayN_eq hs h]
  have q0 : 0 ≤ (ma - is) / (30 * ev) := Int.ediv_nonneg (by omega) (by omega)
  have e : (((ma - is) / (30 * ev)).toNat : Int) = (ma - is) / (30 * ev) := Int.toNat_of_nonneg q0
  rw [e]
  have hd : (ma - is) / (30 * ev) * (30 * ev) = ma - is := by
    rcases hev with ⟨e0, h3, _⟩ | ⟨e0, h3⟩ | ⟨e0, h3⟩ | ⟨e0, h3⟩ | ⟨e0, h3⟩
    · omega
    · subst e0; omega
    · subst e0; omega
    · subst e0; omega
    · subst e0; omega
  refine ⟨?_, hd, ?_⟩
  · rcases Int.lt_or_eq_of_le q0 with q | q
    · omega
    · rw [← q] at hd; omega
  · have : (ma - is) / (30 * ev) ≤ (ma - is) / 30 := by
      rcases hev with ⟨e0, h3, _⟩ | ⟨e0, h3⟩ | ⟨e0, h3⟩ | ⟨e0, h3⟩ | ⟨e0, h3⟩ <;> (subst e0; omega)
    omega
theorem dayAt_last {id un is ma ra ev : Int} {k : Nat} (hs : SecOk id un is ma ra ev) (h : ev ≠ 0) (hk : k + 1 = dayN id un is ma ra ev) : dayAt is ev k = ma := by
  have := (dayN_last hs h).2.1
  rw [← hk] at this
  unfold dayAt
  have e : ((k + 1 : Nat) : Int) = (k : Int) + 1 := by omega
  rw [e, Int.mul_comm] at this
  omega
theorem dayAt_bd {id un is ma ra ev : Int} {k : Nat} (hs : SecOk id un is ma ra ev) (h : ev ≠ 0) (hk : k < dayN id un is ma ra ev) : is + 30 ≤ dayAt is ev k ∧ dayAt is ev k ≤ ma := by
  have hev := hs.ev
  have e := (dayN_last hs h).2.1
  have g := dayAt_ge is ev k (by omega)
  refine ⟨by omega, ?_⟩
  unfold dayAt
  have : (30 * ev) * ((k : Int) + 1) ≤ (30 * ev) * (dayN id un is ma ra ev : Int) := Int.mul_le_mul_of_nonneg_left (by omega) (by omega)
  rw [Int.mul_comm (30 * ev) (dayN id un is ma ra ev : Int)] at this
  omega
/-- the day ahead of the k-th coupon day -/
def beforeDay (is ev : Int) (k : Nat) : Int := is + 30 * ev * k
theorem beforeDay_step (is ev : Int) (k : Nat) : dayAt is ev k = beforeDay is ev k + 30 * ev := by
  unfold dayAt beforeDay
  rw [Int.mul_add]
  omega
theorem beforeDay_succ (is ev : Int) (k : Nat) : beforeDay is ev (k + 1) = dayAt is ev k := by
  unfold dayAt beforeDay
  have e : ((k + 1 : Nat) : Int) = (k : Int) + 1 := by omega
  rw [e]
theorem beforeDay_bd {id un is ma ra ev : Int} {k : Nat} (hs : SecOk id un is ma ra ev) (h : ev ≠ 0) (hk : k ≤ dayN id un is ma ra ev) : 0 ≤ beforeDay is ev k ∧ beforeDay is ev k ≤ ma := by
  have i0 := hs.is0
  have m0 := hs.ma0
  cases k with
  | zero => simp [beforeDay]; omega
  | succ k =>
    rw [beforeDay_succ]
    have := dayAt_bd hs h (show k < dayN id un is ma ra ev by omega)
    omega

set_option maxHeartbeats 2000000 in
set_option maxRecDepth 100000 in
theorem cdays_walk (a0 : Option Addr) (len0 cap0 : Nat) (w : World) (h1 : len0 ≤ cap0) (h2 : cap0 ≤ maxLen) (hz : len0 = 0 ∨ ∃ b off, a0 = some ⟨b, off, none⟩ ∧ ∀ i, i < len0 → ∃ z : Int, w.cell? ⟨b, off + i, none⟩ = some (.int .i64 z)) :
    Calls Try.prog 5 #[.slice a0 len0 cap0] w fun e w' => e = .returned (.bool true) ∧ Below w.heap.size w w' := by
  go_enter Try.func5, Try.ntmps5
  go_wp2_with fail
  refine (new_any a0 len0 cap0 w h1 h2 hz).mono ?_
  rintro e w1 ⟨sb, rfl, hsb, hS1, hB1⟩
  clear hz
  go_wp2_with fail
  refine (srcsec_any sb 1 _ hS1).mono ?_
  rintro e w2 ⟨un, is, ma, ra, ev, ix, hl, rfl, hS2, hG2⟩
  have hB2 : Below w.heap.size w w2 := hB1.trans (below_of_grown hG2 hsb hB1.size)
  obtain ⟨i0, i1, m0, m1, r0, r1, v0, v1⟩ := secLike_bd hl
  have HS := Lib.hid (secLike_ok hl)
  clear hl hB1 hG2
  have z2 := hB2.size
  go_wp2_with fail
  refine (days_any _ _ _ _ _ _ _ _).mono ?_
  obtain ⟨N, hN⟩ : ∃ N, dayN 1 un is ma ra ev = N := ⟨_, rfl⟩
  rintro e w3 ⟨v, rfl, ⟨ao, c, rfl, hsl⟩, hb3⟩
  rw [hN] at hsl ⊢
  have HN := Lib.hid hN
  have HSL := Lib.hid hsl
  clear hN hsl
  obtain ⟨hc3, hf3⟩ := bcell hb3
  have hB3 : Below w.heap.size w w3 := below_up' (hB2.alloc hB2.size _) hb3
  have z3 : w2.heap.size < w3.heap.size := by have := hb3.size; simp at this; omega
  by_cases hev : ev = 0
  · have hn0 : N = 0 := by rw [← HN.out]; exact dayN_zero hev
    subst hev
    subst hn0
    go_wp2_with (go_at_call 17; refine (sane34_any _).mono ?_; rintro e w6 ⟨rfl, hb6⟩)
    go_ret
    exact ⟨rfl, below_up' hB3 (by assumption)⟩
  · have he1 : (ev == 0) = false := by simpa using hev
    have n1 := (dayN_last HS.out hev).1
    have n2 := (dayN_last HS.out hev).2.2
    rw [HN.out] at n1 n2
    obtain ⟨b, off, rfl, hb, hcell⟩ := sl_cell HSL.out (by simp [dayCells]; omega)
    have k2 : w3.cell? ⟨w2.heap.size, 2, none⟩ = some (.int .i64 is) := by rw [hc3 _ _ (by simp), World.cell?_alloc_at _ _ _ _ rfl]; rfl
    have k3 : w3.cell? ⟨w2.heap.size, 3, none⟩ = some (.int .i64 ma) := by rw [hc3 _ _ (by simp), World.cell?_alloc_at _ _ _ _ rfl]; rfl
    have k5 : w3.cell? ⟨w2.heap.size, 5, none⟩ = some (.int .i64 ev) := by rw [hc3 _ _ (by simp), World.cell?_alloc_at _ _ _ _ rfl]; rfl
    have HC := Lib.hid hcell
    have HV := Lib.hid hev
    clear hc3 hf3 hb3 hcell hev
    go_wp2
    go_loop [6, 28] (fun lv iv => ∃ k : Nat, k ≤ N ∧ iv = .int .i64 k ∧ lv = .int .i64 (beforeDay is ev k)) (fun _ iv => N - (intOf iv).toNat)
    case atStart => exact ⟨0, by omega, rfl, by simp [beforeDay]⟩
    case round =>
      obtain ⟨k, hk, rfl, rfl⟩ := hrel
      have hp := beforeDay_bd HS.out HV.out (show k ≤ dayN 1 un is ma ra ev by rw [HN.out]; exact hk)
      by_cases hlt : k < N
      · have hc := HC.out k (by simpa [dayCells] using hlt)
        simp only [dayCells, List.getElem_map, List.getElem_range, beforeDay_step] at hc
        have B := Lib.hid ((beforeDay_succ is ev k).trans (beforeDay_step is ev k))
        obtain ⟨p, hpe⟩ : ∃ p, beforeDay is ev k = p := ⟨_, rfl⟩
        rw [hpe] at hc hp B ⊢
        clear hpe
        obtain ⟨p0, p1⟩ := hp
        go_wp2
        go_round
        case rel => exact ⟨k + 1, by omega, by go_num, by rw [B.out]⟩
        case measure => simp [intOf]; omega
      · have hkN : k = N := by omega
        have hl : beforeDay is ev k = ma := by
          obtain ⟨q, hq⟩ : ∃ q, k = q + 1 := ⟨k - 1, by omega⟩
          rw [hq, beforeDay_succ]
          exact dayAt_last HS.out HV.out (by rw [HN.out]; omega)
        rw [hl]
        subst hkN
        clear hp hl
        go_wp2_with (go_at_call 17; refine (sane34_any _).mono ?_; rintro e w6 ⟨rfl, hb6⟩)
        go_ret
        exact ⟨rfl, below_up' hB3 (by assumption)⟩
end Go.Proofs.Ytkbkohkhpmpddaa
