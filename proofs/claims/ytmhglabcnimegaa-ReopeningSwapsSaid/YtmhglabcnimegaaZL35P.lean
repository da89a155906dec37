/- ReopeningSwaps in plain numbers. -/
import Derived.Test.YtmhglabcnimegaaZMkt
import Derived.Test.YtmhglabcnimegaaZRefN
namespace Go.Proofs.Ytmhglabcnimegaa
open Go.RowKit
set_option linter.unusedVariables false
set_option linter.unusedSimpArgs false
theorem addZ_sum (L : List Hold) (s f n : Int) : sumH (addZ L s f n) = sumH L + if f = 0 then 0 else n := by
  unfold addZ
  split
  · simp
  · rw [addH_sum]
theorem moved_debt {R : Reg} {m : Mv} (hE : rmE R m = 0) (hk : 1 ≤ m.kind ∧ m.kind ≤ 3) : rgDebt (rmR R m) = rgDebt R + (if m.f = 0 then 0 else -m.a) + (if m.t = 0 then 0 else m.a) := by
  obtain ⟨hok, -, hm⟩ := rmE_zero hE
  have hX := (RgOk.move hE hk).1
  unfold rgDebt
  rw [if_pos (chkE_iff.2 hok), if_pos (chkE_iff.2 hX), rmR_ok hE]
  simp only [mvH]
  rw [addZ_sum, addZ_sum]
  rfl
theorem sumH_bd : ∀ {L : List Hold}, (∀ x ∈ L, 0 < x.a ∧ x.a ≤ 1000000000000) → 0 ≤ sumH L ∧ sumH L ≤ 1000000000000 * (L.length : Int)
  | [], _ => by simp [sumH]
  | x :: L, h => by
    have ih := sumH_bd (L := L) (fun y hy => h y (List.mem_cons_of_mem _ hy))
    have h1 := h x (List.mem_cons_self ..)
    simp only [sumH, List.length_cons]
    omega
theorem debt_bd {R : Reg} (h : RgOk R) : 0 ≤ rgDebt R ∧ rgDebt R ≤ 1000000000000000 := by
  unfold rgDebt
  rw [if_pos (chkE_iff.2 h)]
  have hk := h.hok
  have := sumH_bd (L := R.hs) (fun x hx => ⟨hk.pos x hx, Int.le_trans (mem_le_out hk.pos hx) (hk.out x.s)⟩)
  have := h.hl
  omega
/-- what the law asks of a switch that is made -/
structure SwLaw (R Q : Reg) (h n num den un C : Int) : Prop where
  ok : RgOk Q
  g0 : (rgHeld Q 2 h - rgHeld R 2 h) % un = 0
  hold : rgHeld Q 1 h = rgHeld R 1 h - n
  c0 : 0 ≤ C
  c1 : C < un
  sum : rgHeld Q 2 h - rgHeld R 2 h + C = n * num / den
  debt : rgDebt Q = rgDebt R - n + (rgHeld Q 2 h - rgHeld R 2 h)
  gb : 0 ≤ rgHeld Q 2 h - rgHeld R 2 h ∧ rgHeld Q 2 h - rgHeld R 2 h ≤ 9000
theorem st_m1 {R : Reg} {h n : Int} (hh : 1 ≤ h ∧ h ≤ 4) : strangeB (numbered R (spM1 5 1 h n)) = false := by
  have : strangeB (numbered R (spM1 5 1 h n)) = (!inB h 1 1000 || (0 : Int) != 0) := rfl
  rw [this, inB_iff.2 (by omega)]; rfl
theorem st_m2 {R : Reg} {h n : Int} (hh : 1 ≤ h ∧ h ≤ 4) : strangeB (numbered R (spM2 5 2 h n)) = false := by
  have : strangeB (numbered R (spM2 5 2 h n)) = ((0 : Int) != 0 || !inB h 1 1000) := rfl
  rw [this, inB_iff.2 (by omega)]; rfl
theorem sw_plain {R : Reg} {h n num den : Int} (hR : MkReg R 3) (hh : 1 ≤ h ∧ h ≤ 4) (hn : n ∈ ([100, 500, 1000] : List Int)) (h1 : 1 ≤ num ∧ num ≤ 9) (h2 : 1 ≤ den ∧ den ≤ 9) :
    ∃ un ra ix, findS R.secs 2 = some (mkS 2 un ra ix) ∧ (1 ≤ un ∧ un ≤ 100) ∧
    ((spE R 5 1 2 num den h n = 77 ∧ rgHeld R 1 h < n) ∨ (spE R 5 1 2 num den h n = 0 ∧ SwLaw R (spR R 5 1 2 num den h n) h n num den un (spC R 5 1 2 num den h n))) := by
  obtain ⟨hok, hrd, ⟨un1, ra1, ix1, un, ra, ix, hu1, hu2, hsec⟩, hms, hout⟩ := hR
  have f1 : findS R.secs 1 = some (mkS 1 un1 ra1 ix1) := by rw [hsec]; rfl
  have f2 : findS R.secs 2 = some (mkS 2 un ra ix) := by rw [hsec]; simp [findS, mkS]
  have hun : un = 1 ∨ un = 10 ∨ un = 100 := by have := hu2.1; simpa using this
  have hun1 : un1 = 1 ∨ un1 = 10 ∨ un1 = 100 := by have := hu1.1; simpa using this
  have hn' : n = 100 ∨ n = 500 ∨ n = 1000 := by simpa using hn
  refine ⟨un, ra, ix, f2, by omega, ?_⟩
  have hck := chkE_iff.2 hok
  have hsw : swE R 1 2 num den = 0 := by
    unfold swE
    rw [if_pos hck, f1, f2, inB_iff.2 (show 1 ≤ num ∧ num ≤ 1000000 by omega), inB_iff.2 (show 1 ≤ den ∧ den ≤ 1000000 by omega)]
    rfl
  have hnn : 0 ≤ n * num ∧ n * num ≤ 9000 := by rcases hn' with rfl | rfl | rfl <;> omega
  obtain ⟨q, hq⟩ : ∃ q, n * num / den = q := ⟨_, rfl⟩
  have hq0 : 0 ≤ q := by rw [← hq]; exact Int.ediv_nonneg hnn.1 (by omega)
  have hq1 : q ≤ 9000 := by rw [← hq]; exact Int.le_trans (Int.ediv_le_self _ hnn.1) hnn.2
  have hU : unS R 2 = un := by unfold unS; rw [f2]; rfl
  have hgo : gvOk num den un n = true := by
    unfold gvOk
    rw [inB_iff.2 (show 0 ≤ n ∧ n ≤ 1000000000000 by omega), inB_iff.2 (show 1 ≤ un ∧ un ≤ 1000000000 by omega), inB_iff.2 (show 1 ≤ num ∧ num ≤ 1000000 by omega), inB_iff.2 (show 1 ≤ den ∧ den ≤ 1000000 by omega), hq, inB_iff.2 (show 0 ≤ q ∧ q ≤ 1000000000000 by omega)]
    rfl
  have hG : spG R 2 num den n = q - q % un := by unfold spG gvA; rw [hU, if_pos hgo, hq]
  have hC : gvB num den (unS R 2) n = q % un := by unfold gvB; rw [hU, if_pos hgo, hq]
  have hqu : 0 ≤ q % un ∧ q % un < un ∧ q % un ≤ q ∧ (q - q % un) % un = 0 := by
    rcases hun with rfl | rfl | rfl <;> omega
  have hiA : (inB n 0 1000000000000 && inB (n * num / den) 0 1000000000000) = true := by
    rw [hq, inB_iff.2 (show 0 ≤ n ∧ n ≤ 1000000000000 by omega), inB_iff.2 (show 0 ≤ q ∧ q ≤ 1000000000000 by omega)]; rfl
  have hl : R.ms.length ≠ 400 := by omega
  have hheld : rgHeld R 1 h = heldH R.hs 1 h := by unfold rgHeld; rw [if_pos hck]
  by_cases hlt : heldH R.hs 1 h < n
  · left
    have hE1 : rmE R (spM1 5 1 h n) = 77 := by
      unfold rmE
      rw [if_pos hck, if_neg hl, hrd]
      unfold mvE numbered spM1
      simp only [f1]
      unfold mvE1
      simp only [mkS]
      rw [if_pos (by rw [inB_iff]; simp), if_pos (by rcases hun1 with rfl | rfl | rfl <;> rcases hn' with rfl | rfl | rfl <;> simp)]
      rw [if_neg (by have := st_m1 (R := R) (n := n) hh; unfold numbered spM1 at this; simp [this]), if_pos ⟨by omega, hlt⟩]
    refine ⟨?_, by rw [hheld]; exact hlt⟩
    unfold spE
    rw [if_pos hsw, if_pos hiA, hE1, if_neg (by omega)]
  · right
    have hE1 : rmE R (spM1 5 1 h n) = 0 := by
      unfold rmE
      rw [if_pos hck, if_neg hl, hrd, mvOk_iff]
      refine ⟨by simp only [numbered, spM1]; omega, by simp only [numbered, spM1]; omega, st_m1 hh, fun _ => by simp only [numbered, spM1]; omega, fun h0 => by simp only [numbered, spM1] at h0; omega, _, f1, ?_, by simp [numbered, spM1, mkS], by simp [numbered, spM1, mkS]⟩
      simp only [numbered, spM1, mkS]
      rcases hun1 with rfl | rfl | rfl <;> rcases hn' with rfl | rfl | rfl <;> rfl
    obtain ⟨hX, hXd⟩ := RgOk.move (R := R) (m := spM1 5 1 h n) hE1 (show 1 ≤ (3 : Int) ∧ (3 : Int) ≤ 3 by omega)
    have hX1 := moved_held (R := R) (m := spM1 5 1 h n) hE1 (show 1 ≤ (3 : Int) ∧ (3 : Int) ≤ 3 by omega) 1 h hh.1
    have hX2 := moved_held (R := R) (m := spM1 5 1 h n) hE1 (show 1 ≤ (3 : Int) ∧ (3 : Int) ≤ 3 by omega) 2 h hh.1
    have hXD : rgDebt (rmR R (spM1 5 1 h n)) = rgDebt R + (if h = 0 then 0 else -n) + (if (0 : Int) = 0 then 0 else n) := moved_debt (R := R) (m := spM1 5 1 h n) hE1 (show 1 ≤ (3 : Int) ∧ (3 : Int) ≤ 3 by omega)
    have eX1 : rgHeld (rmR R (spM1 5 1 h n)) 1 h = rgHeld R 1 h - n := by rw [hX1]; simp [spM1]; rw [if_neg (by omega)]; omega
    have eX2 : rgHeld (rmR R (spM1 5 1 h n)) 2 h = rgHeld R 2 h := by rw [hX2]; simp [spM1]
    have eXD : rgDebt (rmR R (spM1 5 1 h n)) = rgDebt R - n := by rw [hXD, if_neg (by omega), if_pos rfl]; omega
    obtain ⟨Q1, hQ1⟩ : ∃ Q, rmR R (spM1 5 1 h n) = Q := ⟨_, rfl⟩
    have hQ1s : Q1.secs = R.secs := by rw [← hQ1, rmR_ok hE1]
    have hQ1m : Q1.ms.length = R.ms.length + 1 := by rw [← hQ1, rmR_ok hE1]; simp
    have hQ1o : outH Q1.hs 2 = outH R.hs 2 := by
      rw [← hQ1, rmR_ok hE1]
      have := mvH_out (m := numbered R (spM1 5 1 h n)) (hs := R.hs) (show 1 ≤ (3 : Int) ∧ (3 : Int) ≤ 3 by omega) (rmE_zero hE1).2.2.st 2
      rw [this]; simp [mvN, numbered, spM1]
    rw [hQ1] at hX hXd eX1 eX2 eXD
    have ho2 := hout 2
    by_cases hg : 0 < q - q % un
    · have hE2 : rmE Q1 (spM2 5 2 h (q - q % un)) = 0 := by
        unfold rmE
        rw [if_pos (chkE_iff.2 hX), if_neg (by omega), hXd, mvOk_iff]
        refine ⟨hg, by simp only [numbered, spM2]; omega, st_m2 hh, fun h0 => absurd rfl h0, fun _ => by simp only [numbered, spM2]; rw [hQ1o]; omega, mkS 2 un ra ix, by rw [hQ1s]; exact f2, hqu.2.2.2, by (simp [numbered, spM1, spM2, mkS]; omega), by simp [numbered, spM2, mkS]⟩
      have hZ := (RgOk.move (R := Q1) (m := spM2 5 2 h (q - q % un)) hE2 (show 1 ≤ (1 : Int) ∧ (1 : Int) ≤ 3 by omega)).1
      have hZ1 := moved_held (R := Q1) (m := spM2 5 2 h (q - q % un)) hE2 (show 1 ≤ (1 : Int) ∧ (1 : Int) ≤ 3 by omega) 1 h hh.1
      have hZ2 := moved_held (R := Q1) (m := spM2 5 2 h (q - q % un)) hE2 (show 1 ≤ (1 : Int) ∧ (1 : Int) ≤ 3 by omega) 2 h hh.1
      have hZD : rgDebt (rmR Q1 (spM2 5 2 h (q - q % un))) = rgDebt Q1 + (if (0 : Int) = 0 then 0 else -(q - q % un)) + (if h = 0 then 0 else q - q % un) := moved_debt (R := Q1) (m := spM2 5 2 h (q - q % un)) hE2 (show 1 ≤ (1 : Int) ∧ (1 : Int) ≤ 3 by omega)
      have eZ1 : rgHeld (rmR Q1 (spM2 5 2 h (q - q % un))) 1 h = rgHeld R 1 h - n := by rw [hZ1, eX1]; simp [spM2]
      have eZ2 : rgHeld (rmR Q1 (spM2 5 2 h (q - q % un))) 2 h = rgHeld R 2 h + (q - q % un) := by rw [hZ2, eX2]; simp [spM2]; rw [if_neg (by omega)]; omega
      have eZD : rgDebt (rmR Q1 (spM2 5 2 h (q - q % un))) = rgDebt R - n + (q - q % un) := by rw [hZD, eXD, if_pos rfl, if_neg (by omega)]; omega
      have hE : spE R 5 1 2 num den h n = 0 := by unfold spE; rw [if_pos hsw, if_pos hiA, hE1, if_pos rfl, hG, if_pos hg, hQ1, hE2]
      have hRr : spR R 5 1 2 num den h n = rmR Q1 (spM2 5 2 h (q - q % un)) := by unfold spR; rw [if_pos hE, hG, if_pos hg, hQ1]
      have hCc : spC R 5 1 2 num den h n = q % un := by unfold spC; rw [if_pos hE, hC]
      refine ⟨hE, ?_⟩
      rw [hRr, hCc]
      have hd : rgHeld (rmR Q1 (spM2 5 2 h (q - q % un))) 2 h - rgHeld R 2 h = q - q % un := by rw [eZ2]; omega
      exact ⟨hZ, by rw [hd]; exact hqu.2.2.2, eZ1, hqu.1, hqu.2.1, by rw [hd, hq]; omega, by rw [hd, eZD], by rw [hd]; omega⟩
    · have hE : spE R 5 1 2 num den h n = 0 := by unfold spE; rw [if_pos hsw, if_pos hiA, hE1, if_pos rfl, hG, if_neg hg]
      have hRr : spR R 5 1 2 num den h n = Q1 := by unfold spR; rw [if_pos hE, hG, if_neg hg, hQ1]
      have hCc : spC R 5 1 2 num den h n = q % un := by unfold spC; rw [if_pos hE, hC]
      refine ⟨hE, ?_⟩
      rw [hRr, hCc]
      have hd : rgHeld Q1 2 h - rgHeld R 2 h = 0 := by rw [eX2]; omega
      exact ⟨hX, by rw [hd]; exact Int.zero_emod _, eX1, hqu.1, hqu.2.1, by rw [hd, hq]; omega, by rw [hd, eXD]; omega, by rw [hd]; omega⟩
end Go.Proofs.Ytmhglabcnimegaa
