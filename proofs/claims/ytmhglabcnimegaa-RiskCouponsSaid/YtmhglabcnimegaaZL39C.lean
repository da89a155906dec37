/- RiskCoupons in plain Lean. -/
import Derived.Test.YtmhglabcnimegaaZL39O
namespace Go.Proofs.Ytmhglabcnimegaa
open Go.RowKit
set_option linter.unusedVariables false
set_option linter.unusedSimpArgs false
structure CpLike (ra ev : Int) : Prop where
  ra : ra = 1000 ∨ ra = 2500 ∨ ra = 5000
  ev : ev = 1 ∨ ev = 3 ∨ ev = 6 ∨ ev = 12
def cX (ra ev : Int) : Sec := ⟨1, 1, 0, 1800, ra, ev, false⟩
def cR (ra ev n : Int) : Reg := ⟨[cX ra ev], [⟨1, 1, n⟩], [iss 1 1 n]⟩
theorem cX_ok {ra ev : Int} (h : CpLike ra ev) : SecOk 1 1 0 1800 ra ev := by
  obtain ⟨h1, h2⟩ := h
  refine ⟨by omega, by omega, by omega, by omega, by omega, by omega, by omega, by omega, by omega, by omega, ?_⟩
  rcases h2 with rfl | rfl | rfl | rfl
  · exact .inr (.inl ⟨rfl, by decide⟩)
  · exact .inr (.inr (.inl ⟨rfl, by decide⟩))
  · exact .inr (.inr (.inr (.inl ⟨rfl, by decide⟩)))
  · exact .inr (.inr (.inr (.inr ⟨rfl, by decide⟩)))
theorem cX_sec {ra ev : Int} (h : CpLike ra ev) : secOk (cX ra ev) = true := secB_iff.2 (cX_ok h)
theorem cA_add {ra ev : Int} (h : CpLike ra ev) : raE ⟨[], [], []⟩ (cX ra ev) = 0 ∧ raR ⟨[], [], []⟩ (cX ra ev) = ⟨[cX ra ev], [], []⟩ := by
  have e : raE ⟨[], [], []⟩ (cX ra ev) = 0 := by
    unfold raE
    rw [if_pos (chkE_iff.2 RgOk.nil), cX_sec h]
    rfl
  refine ⟨e, ?_⟩
  unfold raR
  rw [if_pos e]
  rfl
theorem cA_ok {ra ev : Int} (h : CpLike ra ev) : RgOk ⟨[cX ra ev], [], []⟩ := ⟨by simp, by simp, (show (secOk (cX ra ev) && (decide ((0 : Int) < 1) && true)) = true by rw [cX_sec h]; rfl), rfl, rfl⟩
theorem cA_iss {ra ev n : Int} (h : CpLike ra ev) (hn : 1 ≤ n ∧ n ≤ 900000) : rmE ⟨[cX ra ev], [], []⟩ ⟨0, 0, 1, 1, 0, 1, n⟩ = 0 ∧ rmR ⟨[cX ra ev], [], []⟩ ⟨0, 0, 1, 1, 0, 1, n⟩ = cR ra ev n := by
  obtain ⟨h1, h2⟩ := rmE_iss (R := ⟨[cX ra ev], [], []⟩) (s := 1) (n := n) (x := cX ra ev) (cA_ok h) (by simp) rfl rfl rfl (by simp [cX]) rfl hn.1 (by omega) rfl
  refine ⟨h1, ?_⟩
  rw [h2]
  show (⟨[cX ra ev], mvH [] (iss ((0 : Nat) + 1) 1 n), [iss ((0 : Nat) + 1) 1 n]⟩ : Reg) = _
  rw [iss_mvH0 hn.1]
  rfl
theorem cR_ok {ra ev n : Int} (h : CpLike ra ev) (hn : 1 ≤ n ∧ n ≤ 900000) : RgOk (cR ra ev n) := by
  obtain ⟨h1, h2⟩ := cA_iss h hn
  have := RgOk.move h1 ⟨by simp, by simp⟩
  rw [h2] at this
  exact this.1
theorem cR_held {ra ev n : Int} (h : CpLike ra ev) (hn : 1 ≤ n ∧ n ≤ 900000) : rgHeld (cR ra ev n) 1 1 = n := by
  unfold rgHeld; rw [if_pos (chkE_iff.2 (cR_ok h hn))]; simp [cR, heldH, eqK]
theorem cR_rais (ra ev n : Int) (k : Nat) (hk : k ≤ 5) : rais (cR ra ev n) 0 k = 0 := by
  refine sumF_zero fun x hx => ?_
  have : x = ⟨1, 1, n⟩ := by simpa [cR] using hx
  subst this
  have e : yrOf (secOf (cR ra ev n) ⟨1, 1, n⟩).ma = 5 := by show yrOf 1800 = 5; rfl
  unfold raiF
  rw [e, if_neg (by omega)]
/-- the days of coupons -/
def cD (ra ev : Int) : List Int := daysL 1 1 0 1800 ra ev
/-- the coupon -/
def cC (ra ev n : Int) : Int := cpN 1 1 0 1800 ra ev n
theorem cR_coup (ra ev n y : Int) : sumF (coupF (cR ra ev n) y) (cR ra ev n).hs = sumF (dayG (cC ra ev n) y) (cD ra ev) := by
  show sumF (coupF (cR ra ev n) y) [⟨1, 1, n⟩] = _
  simp only [sumF, Int.add_zero]
  rfl
theorem cR_int (ra ev n : Int) (L : List Int) (k : Nat) (hk : k ≤ 5) : prjI (cR ra ev n) 0 L k = sumF (dayG (cC ra ev n) (0 + k)) (cD ra ev) := by
  unfold prjI
  rw [cR_coup, cR_rais ra ev n k hk, Int.zero_mul]
  omega
theorem cR_prin (ra ev n : Int) (L : List Int) (k : Nat) (hk : k ≤ 4) : (prjS (cR ra ev n) 0 L k).p = 0 := cR_rais ra ev n (k + 1) (by omega)
theorem cD_len {ra ev : Int} (h : CpLike ra ev) : (cD ra ev).length ≤ 60 := by
  have hs := secB_iff.2 (cX_ok h)
  obtain ⟨_, h2⟩ := h
  unfold cD daysL dayN
  rw [hs]
  rcases h2 with rfl | rfl | rfl | rfl <;> simp
theorem cD_bd {ra ev : Int} (h : CpLike ra ev) : ∀ d ∈ cD ra ev, 0 ≤ d ∧ d ≤ 36000 := by
  have hl := cD_len h
  obtain ⟨_, h2⟩ := h
  intro d hd
  unfold cD daysL at hd hl
  obtain ⟨j, hj, rfl⟩ := List.mem_map.1 hd
  have hj' := List.mem_range.1 hj
  rw [List.length_map, List.length_range] at hl
  unfold dayAt
  rcases h2 with rfl | rfl | rfl | rfl <;> omega
def indF (d : Int) : Int := if d < 1440 then 1 else 0
theorem cR_total (c : Int) (D : List Int) (h : ∀ d ∈ D, 0 ≤ d ∧ d ≤ 36000) : sumF (fun k : Nat => sumF (dayG c (0 + (k : Int))) D) (List.range 4) = c * sumF indF D := by
  have e : ∀ d, dayG c 0 d + dayG c 1 d + dayG c 2 d + dayG c 3 d = 0 + (dayG c 0 d + dayG c 1 d + dayG c 2 d + dayG c 3 d) := fun d => by omega
  show sumF (dayG c 0) D + (sumF (dayG c 1) D + (sumF (dayG c 2) D + (sumF (dayG c 3) D + 0))) = _
  rw [← sumF_mul]
  have a1 := sumF_add (f := dayG c 0) (g := dayG c 1) (h := fun d => dayG c 0 d + dayG c 1 d) (L := D) fun _ _ => rfl
  have a2 := sumF_add (f := fun d => dayG c 0 d + dayG c 1 d) (g := dayG c 2) (h := fun d => dayG c 0 d + dayG c 1 d + dayG c 2 d) (L := D) fun _ _ => rfl
  have a3 := sumF_add (f := fun d => dayG c 0 d + dayG c 1 d + dayG c 2 d) (g := dayG c 3) (h := fun d => c * indF d) (L := D) fun d hd => by
    have hb := h d hd
    have hy : yrOf d = d / 360 := by unfold yrOf; rw [if_pos (inB_iff.2 hb)]
    simp only [dayG, indF, hy]
    by_cases hlt : d < 1440
    · rw [if_pos hlt]
      rcases (show d / 360 = 0 ∨ d / 360 = 1 ∨ d / 360 = 2 ∨ d / 360 = 3 by omega) with e | e | e | e <;> rw [e] <;> simp
    · rw [if_neg hlt]
      have h4 : 4 ≤ d / 360 := by omega
      rw [if_neg (by omega), if_neg (by omega), if_neg (by omega), if_neg (by omega)]
      simp
  omega
theorem indF_bd (D : List Int) (k : Nat) : 0 ≤ sumF indF (D.take k) ∧ sumF indF (D.take k) ≤ D.length := by
  have h1 := sumF_bd (f := indF) (B := 1) (L := D.take k) fun d _ => by unfold indF; split <;> omega
  have h2 : (D.take k).length ≤ D.length := List.length_take_le' k D
  omega
theorem cR_path : pathB [100, 200, 300, 400] = true := by rfl
theorem cC_bd {ra ev n : Int} (h : CpLike ra ev) (hn : 1 ≤ n ∧ n ≤ 900000) : 0 ≤ cC ra ev n ∧ cC ra ev n ≤ 300000000000 := cpN_bd (cX_ok h) (by omega) (by omega)
theorem cC_err {ra ev n : Int} (h : CpLike ra ev) (hn : 1 ≤ n ∧ n ≤ 900000) : ccE 1 1 0 1800 ra ev n = 0 := ccE_of (cX_ok h) (by omega) (by omega)
theorem cS_bd {ra ev n : Int} (h : CpLike ra ev) (hn : 1 ≤ n ∧ n ≤ 900000) (k : Nat) : 0 ≤ sumF (dayG (cC ra ev n) (0 + k)) (cD ra ev) ∧ sumF (dayG (cC ra ev n) (0 + k)) (cD ra ev) ≤ 18000000000000 := by
  have hc := cC_bd h hn
  have h1 := sumF_bd (f := dayG (cC ra ev n) (0 + k)) (B := 300000000000) (L := cD ra ev) fun d _ => by unfold dayG; split <;> omega
  have := cD_len h
  omega
end Go.Proofs.Ytmhglabcnimegaa
