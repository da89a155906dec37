/- Liquidity in plain lists: plans of a list of positions, what Apply and Right say of them. No program in sight. -/
import Derived.Test.YtkkgipcidbgbhaaLqC
namespace Go.Proofs.Ytkkgipcidbgbhaa
open Go.RowKit
set_option linter.unusedVariables false
set_option linter.unusedSimpArgs false
/-- ascending days, as a list -/
theorem ascB_pw {α : Type} (f : α → Int) (d : α) (L : List α) : ascB L.length (fun j => f (L.getD j d)) = true ↔ (∀ x ∈ L, inB (f x) 0 36000 = true) ∧ L.Pairwise (fun x y => f x < f y) := by
  have hg : ∀ (i : Nat) (hi : i < L.length), L.getD i d = L[i] := fun i hi => by rw [List.getD_eq_getElem?_getD, List.getElem?_eq_getElem hi]; rfl
  unfold ascB
  rw [decide_eq_true_iff]
  constructor
  · intro h
    refine ⟨fun x hx => ?_, ?_⟩
    · obtain ⟨i, hi, rfl⟩ := List.mem_iff_getElem.1 hx
      have := (h i hi).1
      simp only [hg i hi] at this; exact this
    · rw [List.pairwise_iff_getElem]
      intro i j hi hj hij
      induction j with
      | zero => omega
      | succ j ih =>
        have h1 := (h (j + 1) hj).2 (by omega)
        simp only [Nat.add_sub_cancel] at h1
        rw [hg j (by omega), hg (j + 1) hj] at h1
        rcases Nat.lt_or_ge i j with hlt | hge
        · have := ih (by omega) hlt; omega
        · have : i = j := by omega
          subst this; exact h1
  · rintro ⟨h1, h2⟩ i hi
    rw [List.pairwise_iff_getElem] at h2
    refine ⟨by simp only [hg i hi]; exact h1 _ (List.getElem_mem _), fun h0 => ?_⟩
    simp only [hg i hi, hg (i - 1) (by omega)]
    exact h2 (i - 1) i (by omega) hi (by omega)
theorem asc2 (L : List (Int × Int)) : ascB L.length (pd2 L) = true ↔ (∀ x ∈ L, inB x.1 0 36000 = true) ∧ L.Pairwise (fun x y => x.1 < y.1) := ascB_pw (fun x : Int × Int => x.1) (0, 0) L
theorem asc3 (L : List (Int × Int × Int)) : ascB L.length (pd3 L) = true ↔ (∀ x ∈ L, inB x.1 0 36000 = true) ∧ L.Pairwise (fun x y => x.1 < y.1) := ascB_pw (fun x : Int × Int × Int => x.1) (0, 0, 0) L
/-- the place of a day in ascending days -/
theorem dayI_at {L : List (Int × Int)} (h : L.Pairwise (fun x y => x.1 < y.1)) {k : Nat} {x : Int × Int} (hx : L[k]? = some x) : dayI L x.1 = k := by
  refine idxI_some hx (by simp) fun y hy => ?_
  obtain ⟨i, hi, rfl⟩ := List.mem_iff_getElem.1 hy
  rw [List.length_take] at hi
  rw [List.getElem_take]
  obtain ⟨hk, rfl⟩ := List.getElem?_eq_some_iff.1 hx
  rw [List.pairwise_iff_getElem] at h
  have := h i k (by omega) hk (by omega)
  simp; omega
section
variable (lo hi lot mr mp : Int)
/-- the plan of a position -/
def putM (x : Int × Int) : List (Int × Int × Int) := if 0 < decR lo hi lot mr mp x.2 + decP lo hi lot mr mp x.2 then [(x.1, decR lo hi lot mr mp x.2, decP lo hi lot mr mp x.2)] else []
def mkM (L : List (Int × Int)) : List (Int × Int × Int) := L.flatMap (putM lo hi lot mr mp)
/-- a position with its plan -/
def doneM (x : Int × Int) : Int × Int := (x.1, x.2 + (decR lo hi lot mr mp x.2 - decP lo hi lot mr mp x.2))
def enB (n r p : Int) : Bool := decide (r.tmod lot = 0) && decide (p.tmod lot = 0) && inB r 0 mr && inB p 0 mp && (decide (r = 0) != decide (p = 0)) && inB (n + r - p) lo hi
def okX (Q : List (Int × Int × Int)) (x : Int × Int) : Bool :=
  match Q.find? (fun p => decide (p.1 = x.1)) with
  | none => inB x.2 lo hi
  | some p => enB lo hi lot mr mp x.2 p.2.1 p.2.2
def rtB (L : List (Int × Int)) (Q : List (Int × Int × Int)) : Bool := decide (lcE lo hi lot mr mp L.length (pd2 L) (pa2 L) = 0) && plB L Q && L.all (okX lo hi lot mr mp Q)
theorem mkL_M (L : List (Int × Int)) : ∀ k, k ≤ L.length → mkL lo hi lot mr mp (pd2 L) (pa2 L) k = mkM lo hi lot mr mp (L.take k)
  | 0, _ => rfl
  | k + 1, h => by
    have hx : L[k]? = some L[k] := List.getElem?_eq_getElem (by omega)
    obtain ⟨g1, g2⟩ := pd2_get hx
    rw [take_snocZ hx, mkL, mkL_M L k (by omega), g1, g2]
    simp only [mkM, List.flatMap_append, List.flatMap_cons, List.flatMap_nil, List.append_nil]
    rfl
theorem mkP_M (L : List (Int × Int)) (h : mkE lo hi lot mr mp L.length (pd2 L) (pa2 L) = 0) : mkP lo hi lot mr mp L.length (pd2 L) (pa2 L) = mkM lo hi lot mr mp L := by
  unfold mkP; rw [if_pos h, mkL_M _ _ _ _ _ L _ (Nat.le_refl _), take_all (Nat.le_refl _)]
theorem putM_mem {x : Int × Int} {p : Int × Int × Int} (h : p ∈ putM lo hi lot mr mp x) : p = (x.1, decR lo hi lot mr mp x.2, decP lo hi lot mr mp x.2) ∧ 0 < decR lo hi lot mr mp x.2 + decP lo hi lot mr mp x.2 := by
  unfold putM at h
  split at h
  · exact ⟨by simpa using h, by assumption⟩
  · simp at h
theorem mkM_mem {L : List (Int × Int)} {p : Int × Int × Int} (h : p ∈ mkM lo hi lot mr mp L) : ∃ x ∈ L, p = (x.1, decR lo hi lot mr mp x.2, decP lo hi lot mr mp x.2) ∧ 0 < decR lo hi lot mr mp x.2 + decP lo hi lot mr mp x.2 := by
  obtain ⟨x, hx, hp⟩ := List.mem_flatMap.1 h
  exact ⟨x, hx, putM_mem _ _ _ _ _ hp⟩
theorem mkM_pw {L : List (Int × Int)} (h : L.Pairwise (fun x y => x.1 < y.1)) : (mkM lo hi lot mr mp L).Pairwise (fun x y => x.1 < y.1) := by
  induction L with
  | nil => exact List.Pairwise.nil
  | cons x L ih =>
    have h1 := List.pairwise_cons.1 h
    have e : mkM lo hi lot mr mp (x :: L) = putM lo hi lot mr mp x ++ mkM lo hi lot mr mp L := by simp [mkM]
    rw [e, List.pairwise_append]
    refine ⟨?_, ih h1.2, fun a ha b hb => ?_⟩
    · unfold putM; split
      · exact List.pairwise_singleton _ _
      · exact List.Pairwise.nil
    · obtain ⟨rfl, -⟩ := putM_mem _ _ _ _ _ ha
      obtain ⟨y, hy, rfl, -⟩ := mkM_mem _ _ _ _ _ hb
      exact h1.1 y hy
theorem mkM_badQ (L : List (Int × Int)) : badQ (mkM lo hi lot mr mp L) = false := by
  unfold badQ
  rw [List.any_eq_false]
  intro p hp
  obtain ⟨x, -, rfl, -⟩ := mkM_mem _ _ _ _ _ hp
  have := dec_bd0 lo hi lot mr mp x.2
  have : amB (decR lo hi lot mr mp x.2) (decP lo hi lot mr mp x.2) = true := amB_iff.2 (by omega)
  simp [this]
theorem mkM_plB {L : List (Int × Int)} (h : ascB L.length (pd2 L) = true) : plB L (mkM lo hi lot mr mp L) = true := by
  obtain ⟨h1, h2⟩ := (asc2 L).1 h
  unfold plB
  rw [Bool.and_eq_true, asc3]
  refine ⟨⟨fun p hp => ?_, mkM_pw _ _ _ _ _ h2⟩, ?_⟩
  · obtain ⟨x, hx, rfl, -⟩ := mkM_mem _ _ _ _ _ hp
    exact h1 x hx
  · rw [Bool.not_eq_true', List.any_eq_false]
    intro p hp
    obtain ⟨x, hx, rfl, -⟩ := mkM_mem _ _ _ _ _ hp
    obtain ⟨k, hk⟩ := List.mem_iff_getElem?.1 hx
    rw [dayI_at h2 hk]
    simp only [decide_eq_true_eq]; omega
/-- what is decided lies in the band, in lots, within the limits -/
theorem dec_in {n : Int} (h : decO lo hi lot mr mp n = true) : bandB lo hi lot mr mp = true ∧ (decR lo hi lot mr mp n) % lot = 0 ∧ (decP lo hi lot mr mp n) % lot = 0 ∧ decR lo hi lot mr mp n ≤ mr ∧ decP lo hi lot mr mp n ≤ mp ∧ (decR lo hi lot mr mp n = 0 ∨ decP lo hi lot mr mp n = 0) ∧ lo ≤ n + (decR lo hi lot mr mp n - decP lo hi lot mr mp n) ∧ n + (decR lo hi lot mr mp n - decP lo hi lot mr mp n) ≤ hi := by
  by_cases hg : (bandB lo hi lot mr mp && inB n (-1000000000000000) 1000000000000000) = true
  · obtain ⟨g1, g2, g3⟩ := dec_good lo hi lot mr mp n hg
    rw [g3] at h
    rw [Bool.and_eq_true] at hg
    obtain ⟨a1, a2, a3, a4, a5, a6, a7, a8, a9⟩ := bandB_iff.1 hg.1
    have c1 := ceil_bd (lo - n) lot a4
    have c2 := ceil_bd (n - hi) lot a4
    have m1 : (lo - n + lot - 1) / lot * lot % lot = 0 := Int.mul_emod_left ..
    have m2 : (n - hi + lot - 1) / lot * lot % lot = 0 := Int.mul_emod_left ..
    rw [g1, g2]
    refine ⟨hg.1, ?_⟩
    split at h
    · rename_i h1
      simp only [decide_eq_true_eq] at h
      rw [if_pos h1, if_neg (show ¬ hi < n by omega), if_pos h]
      refine ⟨m1, Int.zero_emod _, h.1, by omega, .inr rfl, by omega, by omega⟩
    · rename_i h1
      split at h
      · rename_i h2
        simp only [decide_eq_true_eq] at h
        rw [if_neg h1, if_pos h2, if_pos h]
        refine ⟨Int.zero_emod _, m2, by omega, h.1, .inl rfl, by omega, by omega⟩
      · rename_i h2
        rw [if_neg h1, if_neg h2]
        refine ⟨Int.zero_emod _, Int.zero_emod _, by omega, by omega, .inl rfl, by omega, by omega⟩
  · obtain ⟨_, _, g3⟩ := dec_bad lo hi lot mr mp n (by simpa using hg)
    rw [g3] at h; cases h
theorem done_tot {x : Int × Int} (h : decO lo hi lot mr mp x.2 = true) : totB (doneM lo hi lot mr mp x).2 = true := by
  obtain ⟨hb, -, -, -, -, -, h1, h2⟩ := dec_in _ _ _ _ _ h
  obtain ⟨a1, a2, a3, -⟩ := bandB_iff.1 hb
  exact inB_iff.2 (by unfold doneM; simp only; omega)
theorem runA_M {L : List (Int × Int)} (hp : L.Pairwise (fun x y => x.1 < y.1)) (ho : ∀ x ∈ L, decO lo hi lot mr mp x.2 = true) : ∀ (suf pre : List (Int × Int)), L = pre ++ suf → runA L (pre.map (doneM lo hi lot mr mp) ++ suf) (mkM lo hi lot mr mp suf) = some (L.map (doneM lo hi lot mr mp))
  | [], pre, h => by
    rw [h]; simp [mkM, runA]
  | x :: suf, pre, h => by
    have hL : L[pre.length]? = some x := by rw [h, List.getElem?_append_right (Nat.le_refl _)]; simp
    have ih := runA_M hp ho suf (pre ++ [x]) (by rw [h]; simp)
    have hd := dayI_at hp hL
    have hbd := dec_bd0 lo hi lot mr mp x.2
    have e : mkM lo hi lot mr mp (x :: suf) = putM lo hi lot mr mp x ++ mkM lo hi lot mr mp suf := by simp [mkM]
    have e2 : (pre ++ [x]).map (doneM lo hi lot mr mp) ++ suf = pre.map (doneM lo hi lot mr mp) ++ doneM lo hi lot mr mp x :: suf := by simp
    rw [e2] at ih
    rw [e]
    unfold putM
    by_cases hq : 0 < decR lo hi lot mr mp x.2 + decP lo hi lot mr mp x.2
    · rw [if_pos hq]
      have hs : stepA L (pre.map (doneM lo hi lot mr mp) ++ x :: suf) (x.1, decR lo hi lot mr mp x.2, decP lo hi lot mr mp x.2) = pre.map (doneM lo hi lot mr mp) ++ doneM lo hi lot mr mp x :: suf := by
        unfold stepA amtAt
        simp only [hd, Int.toNat_natCast]
        have e3 : (pre.map (doneM lo hi lot mr mp) ++ x :: suf).getD pre.length (0, 0) = x := by
          rw [List.getD_eq_getElem?_getD, List.getElem?_append_right (by simp)]; simp
        rw [e3, List.set_append_right _ _ (by simp)]
        simp [doneM]
      have ht : totB (amtAt (pre.map (doneM lo hi lot mr mp) ++ doneM lo hi lot mr mp x :: suf) pre.length) = true := by
        have e3 : (pre.map (doneM lo hi lot mr mp) ++ doneM lo hi lot mr mp x :: suf).getD pre.length (0, 0) = doneM lo hi lot mr mp x := by
          rw [List.getD_eq_getElem?_getD, List.getElem?_append_right (by simp)]; simp
        unfold amtAt; rw [e3]
        exact done_tot _ _ _ _ _ (ho x (List.mem_of_getElem? hL))
      simp only [List.cons_append, List.nil_append, runA, hs, hd, Int.toNat_natCast, ht, if_true]
      exact ih
    · rw [if_neg hq]
      have hx : doneM lo hi lot mr mp x = x := by
        obtain ⟨d, a⟩ := x
        simp only at hq hbd
        unfold doneM
        simp only
        rw [show a + (decR lo hi lot mr mp a - decP lo hi lot mr mp a) = a by omega]
      rw [hx] at ih
      exact ih
theorem find_none {Q : List (Int × Int × Int)} {d : Int} (h : idxI (fun p => decide (p.1 = d)) Q < 0) : Q.find? (fun p => decide (p.1 = d)) = none := by
  rw [List.find?_eq_none]
  have := idxI_any (fun p : Int × Int × Int => decide (p.1 = d)) Q
  rw [decide_eq_false (by omega)] at this
  have := List.any_eq_false.1 this.symm
  exact this
theorem find_some : ∀ {Q : List (Int × Int × Int)} {d : Int} {k : Nat}, idxI (fun p => decide (p.1 = d)) Q = k → Q.find? (fun p => decide (p.1 = d)) = Q[k]?
  | [], d, k, h => by simp [idxI] at h
  | y :: Q, d, k, h => by
    rw [idxI] at h
    rw [List.find?_cons]
    by_cases hy : y.1 = d
    · simp only [hy, decide_true, if_true] at h ⊢
      have : k = 0 := by omega
      subst this
      rfl
    · simp only [hy, decide_false, Bool.false_eq_true, if_false] at h ⊢
      by_cases h2 : idxI (fun p => decide (p.1 = d)) Q < 0
      · rw [if_pos h2] at h; omega
      · rw [if_neg h2] at h
        obtain ⟨m, rfl⟩ : ∃ m, k = m + 1 := ⟨k - 1, by omega⟩
        exact find_some (k := m) (by omega)
theorem find_at {Q : List (Int × Int × Int)} (h : Q.Pairwise (fun x y => x.1 < y.1)) {p : Int × Int × Int} (hp : p ∈ Q) : Q.find? (fun q => decide (q.1 = p.1)) = some p := by
  induction Q with
  | nil => simp at hp
  | cons y Q ih =>
    have h1 := List.pairwise_cons.1 h
    rw [List.find?_cons]
    rcases List.mem_cons.1 hp with rfl | hp
    · simp
    · have := h1.1 p hp
      rw [decide_eq_false (by omega)]
      exact ih h1.2 hp
theorem tmod_of {a b : Int} (ha : 0 ≤ a) (h : a % b = 0) : a.tmod b = 0 := by rw [Int.tmod_eq_emod_of_nonneg ha]; exact h
theorem rtB_M {L : List (Int × Int)} (hc : lcE lo hi lot mr mp L.length (pd2 L) (pa2 L) = 0) (ha : ascB L.length (pd2 L) = true) (ho : ∀ x ∈ L, decO lo hi lot mr mp x.2 = true) : rtB lo hi lot mr mp L (mkM lo hi lot mr mp L) = true := by
  obtain ⟨h1, h2⟩ := (asc2 L).1 ha
  unfold rtB
  rw [Bool.and_eq_true, Bool.and_eq_true, List.all_eq_true]
  refine ⟨⟨decide_eq_true hc, mkM_plB _ _ _ _ _ ha⟩, fun x hx => ?_⟩
  obtain ⟨hb, d1, d2, d3, d4, d5, d6, d7⟩ := dec_in _ _ _ _ _ (ho x hx)
  have hbd := dec_bd0 lo hi lot mr mp x.2
  unfold okX
  by_cases hq : 0 < decR lo hi lot mr mp x.2 + decP lo hi lot mr mp x.2
  · have hm : (x.1, decR lo hi lot mr mp x.2, decP lo hi lot mr mp x.2) ∈ mkM lo hi lot mr mp L := List.mem_flatMap.2 ⟨x, hx, by unfold putM; rw [if_pos hq]; exact List.mem_singleton.2 rfl⟩
    have := find_at (mkM_pw lo hi lot mr mp h2) hm
    simp only at this
    rw [this]
    simp only
    unfold enB
    simp only [Bool.and_eq_true, decide_eq_true_eq]
    refine ⟨⟨⟨⟨⟨tmod_of hbd.1 d1, tmod_of hbd.2.2.1 d2⟩, inB_iff.2 ⟨hbd.1, d3⟩⟩, inB_iff.2 ⟨hbd.2.2.1, d4⟩⟩, ?_⟩, inB_iff.2 (by omega)⟩
    rcases d5 with d5 | d5
    · rw [d5, decide_eq_true rfl, decide_eq_false (by omega)]; rfl
    · rw [d5, decide_eq_true (p := (0 : Int) = 0) rfl, decide_eq_false (by omega)]; rfl
  · have : (mkM lo hi lot mr mp L).find? (fun p => decide (p.1 = x.1)) = none := by
      rw [List.find?_eq_none]
      intro p hp
      obtain ⟨y, hy, rfl, hy0⟩ := mkM_mem _ _ _ _ _ hp
      simp only [decide_eq_true_eq]
      intro e
      obtain ⟨i, hi, rfl⟩ := List.mem_iff_getElem.1 hx
      obtain ⟨j, hj, rfl⟩ := List.mem_iff_getElem.1 hy
      rw [List.pairwise_iff_getElem] at h2
      rcases Nat.lt_trichotomy i j with h | h | h
      · have := h2 i j hi hj h; omega
      · subst h; exact hq hy0
      · have := h2 j i hj hi h; omega
    rw [this]
    simp only
    exact inB_iff.2 (by omega)
end
end Go.Proofs.Ytkkgipcidbgbhaa
