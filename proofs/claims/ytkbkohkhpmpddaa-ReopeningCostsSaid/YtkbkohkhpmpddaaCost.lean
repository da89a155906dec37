/- The contract of reopening.Cost. -/
import Derived.Test.YtkbkohkhpmpddaaReop
namespace Go.Proofs.Ytkbkohkhpmpddaa
open Go.RowKit
set_option linter.unusedVariables false

def coE (id un is ma ra ev day a p : Int) : Int :=
  if secB id un is ma ra ev then (if pyE a p = 0 then (if accE id un is ma ra ev a day = 0 then (if inB (pyV a p + accN id un is ma ra ev a day) 0 1000000000000 then 0 else 2) else accE id un is ma ra ev a day) else pyE a p) else 76
def coV (id un is ma ra ev day a p : Int) : Int := if coE id un is ma ra ev day a p = 0 then pyV a p + accN id un is ma ra ev a day else 0
theorem ckV_bd (n : Int) : 0 ≤ ckV n ∧ ckV n ≤ 1000000000000 := by
  unfold ckV
  cases h : inB n 0 1000000000000
  · simp
  · simpa using inB_iff.1 h
theorem pyV_bd (n p : Int) : 0 ≤ pyV n p ∧ pyV n p ≤ 1000000000000 := by
  unfold pyV
  split
  · exact ckV_bd _
  · omega
theorem accN_bd (id un is ma ra ev : Int) (ix : Bool) (n day : Int) : 0 ≤ accN id un is ma ra ev n day ∧ accN id un is ma ra ev n day ≤ 300000000000 := by
  unfold accN
  split
  · rename_i h
    obtain ⟨h1, h2, h3⟩ := h
    obtain ⟨hs, n0, n1⟩ := ccE_zero h1
    obtain ⟨_, _, l0, l1, l2⟩ := lastD_bd hs h2
    have hev := hs.ev
    obtain ⟨p0, p1⟩ := mul_bd n0 n1 hs.ra0 hs.ra1
    obtain ⟨q0, q1⟩ := mul_bd p0 p1 (show 0 ≤ day - lastD id un is ma ra ev day by omega) (l2 (by omega))
    omega
  · omega
set_option maxHeartbeats 1000000 in
theorem cost_any (id un is ma ra ev : Int) (ix : Bool) (day a p : Int) (w : World) :
    Calls Try.prog 27 #[.agg #[.int .i64 id, .int .i64 un, .int .i64 is, .int .i64 ma, .int .i64 ra, .int .i64 ev, .bool ix], .int .i64 day, .int .i64 a, .int .i64 p] w fun e w' => e = .returned (.tuple #[.int .i64 (coV id un is ma ra ev day a p), .int .i64 (coE id un is ma ra ev day a p)]) ∧ Below w.heap.size w w' := by
  obtain ⟨v0, v1⟩ := pyV_bd a p
  obtain ⟨n0, n1⟩ := accN_bd id un is ma ra ev ix a day
  cases hs : secB id un is ma ra ev
  · have hf := Lib.hid (show coE id un is ma ra ev day a p = 76 ∧ coV id un is ma ra ev day a p = 0 by simp [coE, coV, hs])
    go_enter Try.func27, Try.ntmps27
    go_wp2_with fail
    refine (security_any id un is ma ra ev ix _).mono ?_
    rw [hs]
    rintro e w1 ⟨rfl, hb⟩
    have hB := below_box hb
    go_wp2
    go_ret2
    exact ⟨ret_ab ⟨hf.out.2.symm, hf.out.1.symm⟩, hB⟩
  obtain ⟨pv, hpv⟩ : ∃ r, pyV a p = r := ⟨_, rfl⟩
  obtain ⟨pe, hpe⟩ : ∃ r, pyE a p = r := ⟨_, rfl⟩
  obtain ⟨av, hav⟩ : ∃ r, accN id un is ma ra ev a day = r := ⟨_, rfl⟩
  obtain ⟨ae, hae⟩ : ∃ r, accE id un is ma ra ev a day = r := ⟨_, rfl⟩
  rw [hpv] at v0 v1
  rw [hav] at n0 n1
  have K := Lib.hid (And.intro hpv (And.intro hpe (And.intro hav hae)))
  have HS := Lib.hid hs
  by_cases h1 : pe = 0
  · subst h1
    by_cases h2 : ae = 0
    · subst h2
      obtain ⟨b, hb⟩ : ∃ b, inB (pv + av) 0 1000000000000 = b := ⟨_, rfl⟩
      have hf := Lib.hid (show coE id un is ma ra ev day a p = (if b then 0 else 2) ∧ coV id un is ma ra ev day a p = (if b then pv + av else 0) by
        have e : coE id un is ma ra ev day a p = (if b then 0 else 2) := by simp only [coE, hs, hpe, hae, hpv, hav, hb, if_true]
        refine ⟨e, ?_⟩
        unfold coV
        rw [e, hpv, hav]
        cases b <;> rfl)
      clear hs hpv hpe hav hae
      cases b
      all_goals
        go_enter Try.func27, Try.ntmps27
        go_wp2_with fail
        refine (security_any id un is ma ra ev ix _).mono ?_
        rw [HS.out]
        rintro e w1 ⟨rfl, hb1⟩
        obtain ⟨hc, hfz⟩ := bcell hb1
        have hz : w.heap.size < w1.heap.size := by have := hb1.size; simp at this; omega
        have hB := below_box hb1
        clear hb1
        go_wp2_with fail
        refine (pay_any _ _ _).mono ?_
        rw [K.out.1, K.out.2.1]
        rintro e w' ⟨rfl, rfl⟩
        go_wp2_with fail
        refine (accrued_any _ _ _ _ _ _ _ _ _ _).mono ?_
        rw [K.out.2.2.1, K.out.2.2.2]
        rintro e w2 ⟨rfl, hb2⟩
        have hB2 := hB.trans (hb2.mono (show w.heap.size ≤ w1.heap.size by omega))
        clear hb2 hB
        go_wp2_with fail
        refine (valid_any _ _).mono ?_
        rw [hb]
        rintro e w' ⟨rfl, rfl⟩
        go_wp2
        go_ret2
        exact ⟨ret_ab ⟨hf.out.2.symm, hf.out.1.symm⟩, hB2⟩
    · have hf := Lib.hid (show coE id un is ma ra ev day a p = ae ∧ coV id un is ma ra ev day a p = 0 by
        have e : coE id un is ma ra ev day a p = ae := by simp only [coE, hs, hpe, hae, if_true]; rw [if_neg h2]
        exact ⟨e, by unfold coV; rw [if_neg (by rw [e]; exact h2)]⟩)
      have h3 : (ae != 0) = true := by simpa using h2
      clear hs hpv hpe hav hae h2
      go_enter Try.func27, Try.ntmps27
      go_wp2_with fail
      refine (security_any id un is ma ra ev ix _).mono ?_
      rw [HS.out]
      rintro e w1 ⟨rfl, hb1⟩
      obtain ⟨hc, hfz⟩ := bcell hb1
      have hz : w.heap.size < w1.heap.size := by have := hb1.size; simp at this; omega
      have hB := below_box hb1
      clear hb1
      go_wp2_with fail
      refine (pay_any _ _ _).mono ?_
      rw [K.out.1, K.out.2.1]
      rintro e w' ⟨rfl, rfl⟩
      go_wp2_with fail
      refine (accrued_any _ _ _ _ _ _ _ _ _ _).mono ?_
      rw [K.out.2.2.1, K.out.2.2.2]
      rintro e w2 ⟨rfl, hb2⟩
      have hB2 := hB.trans (hb2.mono (show w.heap.size ≤ w1.heap.size by omega))
      clear hb2 hB
      go_wp2
      go_ret2
      exact ⟨ret_ab ⟨hf.out.2.symm, hf.out.1.symm⟩, hB2⟩
  · have hf := Lib.hid (show coE id un is ma ra ev day a p = pe ∧ coV id un is ma ra ev day a p = 0 by
      have e : coE id un is ma ra ev day a p = pe := by simp only [coE, hs, hpe, if_true]; rw [if_neg h1]
      exact ⟨e, by unfold coV; rw [if_neg (by rw [e]; exact h1)]⟩)
    have h3 : (pe != 0) = true := by simpa using h1
    clear hs hpv hpe hav hae h1
    go_enter Try.func27, Try.ntmps27
    go_wp2_with fail
    refine (security_any id un is ma ra ev ix _).mono ?_
    rw [HS.out]
    rintro e w1 ⟨rfl, hb1⟩
    have hB := below_box hb1
    clear hb1
    go_wp2_with fail
    refine (pay_any _ _ _).mono ?_
    rw [K.out.1, K.out.2.1]
    rintro e w' ⟨rfl, rfl⟩
    go_wp2
    go_ret2
    exact ⟨ret_ab ⟨hf.out.2.symm, hf.out.1.symm⟩, hB⟩
end Go.Proofs.Ytkbkohkhpmpddaa
