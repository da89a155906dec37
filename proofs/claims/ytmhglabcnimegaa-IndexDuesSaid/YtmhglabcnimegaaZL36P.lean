/- IndexDues in plain lists. -/
import Derived.Test.YtmhglabcnimegaaZIxQ
import Derived.Test.YtmhglabcnimegaaZL34Pn
import Derived.Test.YtmhglabcnimegaaZL36Base
namespace Go.Proofs.Ytmhglabcnimegaa
open Go.RowKit
set_option linter.unusedVariables false
set_option linter.unusedSimpArgs false
def bondS : Sec := ⟨1, 1, 90, 450, 5000, 6, true⟩
def dHs : List Int → Int → List Hold
  | [], _ => []
  | q :: L, h => ⟨1, h, 1000 * q⟩ :: dHs L (h + 1)
def dMs : List Int → Int → List Mv
  | [], _ => []
  | q :: L, h => ⟨h, 90, 1, 1, 0, h, 1000 * q⟩ :: dMs L (h + 1)
def dR (L : List Int) : Reg := ⟨[bondS], dHs L 1, dMs L 1⟩
def dMv (h q : Int) : Mv := ⟨0, 90, 1, 1, 0, h, 1000 * q⟩
/-- the register behind some issues -/
structure DAt (L : List Int) : Prop where
  ok : RgOk (dR L)
  day : rgDay (dR L) = 0 ∨ rgDay (dR L) = 90
  qs : ∀ q ∈ L, 1 ≤ q ∧ q ≤ 9
theorem dMs_day : ∀ (L : List Int) (h : Int), ∀ m ∈ dMs L h, m.day = 90
  | [], _, m, hm => by simp [dMs] at hm
  | q :: L, h, m, hm => by
    simp only [dMs] at hm
    rcases List.mem_cons.1 hm with rfl | hm
    · rfl
    · exact dMs_day L (h + 1) m hm
theorem dAt_nil : DAt [] := ⟨chkE_iff.1 (by kernel_rfl), .inl (by kernel_rfl), by simp⟩
theorem dAt_next {L : List Int} {q : Int} (h : DAt L) (hl : L.length ≤ 2) (hq : 1 ≤ q ∧ q ≤ 9) : rmE (dR L) (dMv ((L.length : Int) + 1) q) = 0 ∧ rmR (dR L) (dMv ((L.length : Int) + 1) q) = dR (L ++ [q]) ∧ DAt (L ++ [q]) := by
  have hml : (dR L).ms.length = L.length := by
    unfold dR; simp only
    have : ∀ (L : List Int) (h : Int), (dMs L h).length = L.length := by
      intro L
      induction L with
      | nil => intro h; rfl
      | cons a L ih => intro h; simp [dMs, ih]
    exact this L 1
  have hE : rmE (dR L) (dMv ((L.length : Int) + 1) q) = 0 := by
    unfold rmE
    rw [if_pos (chkE_iff.2 h.ok), if_neg (by omega), mvOk_iff]
    refine ⟨by simp only [numbered, dMv]; omega, by simp only [numbered, dMv]; omega, ?_, fun h0 => absurd rfl h0, fun _ => ?_, bondS, rfl, by simp only [numbered, dMv, bondS]; omega, ?_, by simp [numbered, dMv, bondS]⟩
    · have : strangeB (numbered (dR L) (dMv ((L.length : Int) + 1) q)) = ((0 : Int) != 0 || !inB ((L.length : Int) + 1) 1 1000) := rfl
      rw [this, inB_iff.2 (by omega)]; rfl
    · simp only [numbered, dMv]
      have h1 := h.qs
      have h2 : outH (dR L).hs 1 ≤ 9000 * (L.length : Int) := by
        have : ∀ (L : List Int) (h : Int), (∀ q ∈ L, 1 ≤ q ∧ q ≤ 9) → outH (dHs L h) 1 ≤ 9000 * (L.length : Int) := by
          intro L
          induction L with
          | nil => intro h _; simp [dHs, outH]
          | cons a L ih =>
            intro h hq
            have := ih (h + 1) (fun q hq' => hq q (List.mem_cons_of_mem _ hq'))
            have := hq a (List.mem_cons_self ..)
            simp only [dHs, outH, List.length_cons, if_true]
            omega
        exact this L 1 h1
      omega
    · rcases h.day with hd | hd <;> rw [hd] <;> (simp [numbered, dMv, bondS] <;> omega)
  have hR : rmR (dR L) (dMv ((L.length : Int) + 1) q) = dR (L ++ [q]) := by
    rw [rmR_ok hE]
    have q0 : ¬ 1000 * q = 0 := by omega
    match L, hl with
    | [], _ => simp [dR, dMv, numbered, mvH, addZ, addH, dHs, dMs, q0]
    | [a], _ => simp [dR, dMv, numbered, mvH, addZ, addH, dHs, dMs, q0, ltK]
    | [a, b], _ => simp [dR, dMv, numbered, mvH, addZ, addH, dHs, dMs, q0, ltK]
  have hmv := RgOk.move hE (show 1 ≤ (1 : Int) ∧ (1 : Int) ≤ 3 by omega)
  rw [hR] at hmv
  refine ⟨hE, hR, hmv.1, .inr hmv.2, fun x hx => ?_⟩
  rcases List.mem_append.1 hx with hx | hx
  · exact h.qs x hx
  · rw [List.mem_singleton.1 hx]; exact hq
theorem dAt_at {L : List Int} (h : DAt L) {day : Int} (hd : 90 ≤ day) : rgAt (dR L) day = dHs L 1 := by
  have h1 := h.ok.cut day
  have h2 : msTo day (dR L).ms = (dR L).ms := msTo_all (fun m hm => by rw [dMs_day L 1 m hm]; exact hd)
  have h3 := h1.hs
  simp only at h3
  rw [h2] at h3
  exact h3.symm.trans h.ok.hs
/-- two lists of dues, one for one, the first with no less -/
def RelD (L M : List Due) : Prop := L.length = M.length ∧ ∀ (i : Nat) (x y : Due), L[i]? = some x → M[i]? = some y → x.h = y.h ∧ x.kind = y.kind ∧ x.day = y.day ∧ y.a ≤ x.a
theorem RelD.append {L M L' M' : List Due} (h : RelD L M) (h' : RelD L' M') : RelD (L ++ L') (M ++ M') := by
  refine ⟨by rw [List.length_append, List.length_append, h.1, h'.1], fun i x y hx hy => ?_⟩
  by_cases hi : i < L.length
  · rw [List.getElem?_append_left hi] at hx
    rw [List.getElem?_append_left (by rw [← h.1]; exact hi)] at hy
    exact h.2 i x y hx hy
  · rw [List.getElem?_append_right (by omega)] at hx
    rw [List.getElem?_append_right (by rw [← h.1]; omega), ← h.1] at hy
    exact h'.2 _ x y hx hy
theorem relD_nil : RelD [] [] := ⟨rfl, fun i x y hx _ => by simp at hx⟩
theorem relD_one {d s h k a b : Int} (hab : b ≤ a) : RelD [⟨d, s, h, k, a⟩] [⟨d, s, h, k, b⟩] := ⟨rfl, fun i x y hx hy => by
  match i with
  | 0 =>
    simp only [List.getElem?_cons_zero, Option.some.injEq] at hx hy
    subst hx hy
    exact ⟨rfl, rfl, rfl, hab⟩
  | i + 1 => simp at hx⟩
theorem due_fin {b1 b2 : Bool} {EC EP EC' C Q C' Q' day s h : Int} (h1 : EC = 0) (h2 : EP = 0) (h3 : EC' = 0) (c0 : C ≠ 0) (c1 : C' ≠ 0) (c2 : C' ≤ C) (q0 : Q ≠ 0) (q1 : Q' ≠ 0) (q2 : Q' ≤ Q) :
    ofE b1 b2 EC EP = 0 ∧ RelD (ofL b1 b2 EC EP C Q day s h) (ofL b1 b2 EC' 0 C' Q' day s h) := by
  subst h1 h2 h3
  have e : ofE b1 b2 0 0 = 0 := by simp [ofE]
  refine ⟨e, ?_⟩
  unfold ofL
  rw [e, if_pos rfl, if_pos rfl]
  refine RelD.append ?_ ?_
  · cases b1
    · exact relD_nil
    · simp only [if_true]; unfold dueL; rw [if_neg c0, if_neg c1]; exact relD_one c2
  · cases b2
    · exact relD_nil
    · simp only [if_true]; unfold dueL; rw [if_neg q0, if_neg q1]; exact relD_one q2
/-- one holding -/
theorem due_one {q : Int} (hq : 1 ≤ q ∧ q ≤ 9) (day : Int) (hd : day = 270 ∨ day = 450 ∨ day = 300) (h : Int) (R : Reg) (hf : findS R.secs 1 = some bondS) :
    (ixF 0 14 tenL R day ⟨1, h, 1000 * q⟩).2 = 0 ∧ RelD (ixF 0 14 tenL R day ⟨1, h, 1000 * q⟩).1 (pdF R day ⟨1, h, 1000 * q⟩) := by
  have e1 : ixF 0 14 tenL R day ⟨1, h, 1000 * q⟩ = (ofL (decide (day ∈ daysL 1 1 90 450 5000 6)) (decide (day = 450)) (icE 0 14 tenL 1 1 90 450 5000 6 true (1000 * q) day) (scE 0 14 tenL 1 1 90 450 5000 6 true (1000 * q) 450) (icV 0 14 tenL 1 1 90 450 5000 6 true (1000 * q) day) (fnV 0 14 tenL 1 1 90 450 5000 6 true (1000 * q)) day 1 h, ofE (decide (day ∈ daysL 1 1 90 450 5000 6)) (decide (day = 450)) (icE 0 14 tenL 1 1 90 450 5000 6 true (1000 * q) day) (scE 0 14 tenL 1 1 90 450 5000 6 true (1000 * q) 450)) := by
    unfold ixF; simp only; rw [hf]; rfl
  have e2 : pdF R day ⟨1, h, 1000 * q⟩ = ofL (decide (day ∈ daysL 1 1 90 450 5000 6)) (decide (day = 450)) (ccE 1 1 90 450 5000 6 (1000 * q)) 0 (cpN 1 1 90 450 5000 6 (1000 * q)) (1000 * q) day 1 h := by
    unfold pdF; simp only; rw [hf]; rfl
  rw [e1, e2]
  clear e1 e2 hf
  have hx : ixB 0 14 tenL = true := by decide
  obtain rfl | rfl | rfl | rfl | rfl | rfl | rfl | rfl | rfl : q = 1 ∨ q = 2 ∨ q = 3 ∨ q = 4 ∨ q = 5 ∨ q = 6 ∨ q = 7 ∨ q = 8 ∨ q = 9 := by omega
  all_goals rcases hd with rfl | rfl | rfl
  all_goals (dsimp only; refine due_fin ?_ ?_ ?_ ?_ ?_ ?_ ?_ ?_ ?_ <;> decide +kernel)
theorem due_all (day : Int) (hd : day = 270 ∨ day = 450 ∨ day = 300) (R : Reg) (hf : findS R.secs 1 = some bondS) : ∀ (L : List Int) (h : Int), (∀ q ∈ L, 1 ≤ q ∧ q ≤ 9) →
    (∀ y ∈ dHs L h, (ixF 0 14 tenL R day y).2 = 0) ∧ RelD ((dHs L h).flatMap (fun y => (ixF 0 14 tenL R day y).1)) ((dHs L h).flatMap (pdF R day))
  | [], h, _ => ⟨by simp [dHs], relD_nil⟩
  | q :: L, h, hq => by
    obtain ⟨h1, h2⟩ := due_all day hd R hf L (h + 1) (fun x hx => hq x (List.mem_cons_of_mem _ hx))
    obtain ⟨h3, h4⟩ := due_one (hq q (List.mem_cons_self ..)) day hd h R hf
    refine ⟨fun y hy => ?_, ?_⟩
    · simp only [dHs] at hy
      rcases List.mem_cons.1 hy with rfl | hy
      · exact h3
      · exact h1 y hy
    · simp only [dHs, List.flatMap_cons]
      exact RelD.append h4 h2
/-- what the law asks -/
theorem dues_plain {L : List Int} (h : DAt L) {day : Int} (hd : day = 270 ∨ day = 450 ∨ day = 300) :
    ipE 0 14 tenL (dR L) day = 0 ∧ pdE (dR L) day = 0 ∧ RelD (ipL 0 14 tenL (dR L) day) (pdL (dR L) day) := by
  have hx : ixE 0 14 tenL = 0 := by
    have : ixB 0 14 tenL = true := by decide
    simp [ixE, this]
  have hp : pdE (dR L) day = 0 := by unfold pdE; rw [if_pos (chkE_iff.2 h.ok), if_pos (inB_iff.2 (by omega))]
  have ha := dAt_at h (day := day) (by omega)
  obtain ⟨h1, h2⟩ := due_all day hd (dR L) rfl L 1 h.qs
  have he : ipE 0 14 tenL (dR L) day = 0 := by
    unfold ipE
    rw [if_pos hx, if_pos hp, ha]
    unfold ixFe
    have : (dHs L 1).find? (fun y => decide ((ixF 0 14 tenL (dR L) day y).2 ≠ 0)) = none := by
      rw [List.find?_eq_none]
      intro y hy
      simpa using h1 y hy
    rw [this]
  refine ⟨he, hp, ?_⟩
  unfold ipL pdL
  rw [if_pos he, if_pos hp, ha]
  exact h2
end Go.Proofs.Ytmhglabcnimegaa
