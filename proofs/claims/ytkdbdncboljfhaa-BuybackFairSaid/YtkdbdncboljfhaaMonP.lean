/- money.Parts in plain. -/
import Derived.Test.YtkdbdncboljfhaaSortP
import Derived.Test.YtkdbdncboljfhaaCmpI
import Derived.Test.YtkdbdncboljfhaaSortA
namespace Go.Proofs.Ytkdbdncboljfhaa
open Go.RowKit
set_option linter.unusedVariables false
set_option linter.unusedSimpArgs false
def sumI : List Int → Int
  | [] => 0
  | x :: L => x + sumI L
theorem sumI_append (A B : List Int) : sumI (A ++ B) = sumI A + sumI B := by
  induction A with
  | nil => simp [sumI]
  | cons x A ih => simp only [List.cons_append, sumI, ih]; omega
def wgB (w : Int) : Bool := inB w 0 1000000
/-- the error of a division into parts -/
def partsE (t : Int) (W : List Int) : Int :=
  if inB t 0 1000000000000 then (if W.any (fun w => !wgB w) then 2 else if 200 < W.length then 3 else if sumI W = 0 then 1 else 0) else 2
def baseP (t s : Int) (W : List Int) : List Int := W.map fun w => t * w / s
def rstP (t s : Int) (W : List Int) : List Int := W.map fun w => t * w % s
def rAt (t s : Int) (W : List Int) (i : Int) : Int := (rstP t s W).getD i.toNat 0
def cfP (t s : Int) (W : List Int) (i k : Int) : Int := cmpI (rAt t s W k) (rAt t s W i)
def idxs (n : Nat) : List Int := (List.range n).map fun j : Nat => (j : Int)
def ordP (t s : Int) (W : List Int) : List Int := srt (ltc (cfP t s W)) (idxs W.length)
def leftP (t s : Int) (W : List Int) : Int := t - sumI (baseP t s W)
/-- one more at some places -/
def bump : List Int → List Int → List Int
  | L, [] => L
  | L, i :: I => bump (L.set i.toNat (L.getD i.toNat 0 + 1)) I
def partsR (t s : Int) (W : List Int) : List Int := bump (baseP t s W) ((ordP t s W).take (leftP t s W).toNat)
def partsL (t : Int) (W : List Int) : List Int := if partsE t W = 0 then partsR t (sumI W) W else []
theorem bump_append : ∀ (L I J : List Int), bump L (I ++ J) = bump (bump L I) J
  | L, [], J => rfl
  | L, i :: I, J => by rw [List.cons_append, bump, bump, bump_append]
theorem bump_length : ∀ (L I : List Int), (bump L I).length = L.length
  | L, [] => rfl
  | L, i :: I => by rw [bump, bump_length, List.length_set]
theorem bump_bd : ∀ (L I : List Int) {B : Int}, (∀ x ∈ L, 0 ≤ x ∧ x ≤ B) → ∀ x ∈ bump L I, 0 ≤ x ∧ x ≤ B + I.length
  | L, [], B, h => fun x hx => by have := h x hx; simp; omega
  | L, i :: I, B, h => fun x hx => by
    rw [bump] at hx
    have key : ∀ y ∈ L.set i.toNat (L.getD i.toNat 0 + 1), 0 ≤ y ∧ y ≤ B + 1 := fun y hy => by
      by_cases hi : i.toNat < L.length
      · rcases List.mem_or_eq_of_mem_set hy with hy | hy
        · have := h y hy; omega
        · have := h _ (List.getElem_mem hi)
          rw [show L.getD i.toNat 0 = L[i.toNat] by simp [List.getD_eq_getElem?_getD, hi]] at hy
          omega
      · rw [List.set_eq_of_length_le (by omega)] at hy
        have := h y hy; omega
    have := bump_bd (L.set i.toNat (L.getD i.toNat 0 + 1)) I key x hx
    simp only [List.length_cons]; omega
theorem ltP_wk (f : Int → Int) : Wk (ltc fun i k => cmpI (f k) (f i)) := by
  have e : ∀ i k, ltc (fun i k => cmpI (f k) (f i)) i k = decide (f k < f i) := fun i k => by
    show decide ((if f k < f i then -1 else if f i < f k then 1 else 0 : Int) < 0) = decide (f k < f i)
    rw [decide_eq_decide]
    repeat' split
    all_goals omega
  constructor
  · intro x y h; rw [e] at h ⊢; simp at h ⊢; omega
  · intro x y z h k; rw [e] at h k ⊢; simp at h k ⊢; omega
theorem cfP_wk (t s : Int) (W : List Int) : Wk (ltc (cfP t s W)) := ltP_wk (rAt t s W)
theorem idxs_length (n : Nat) : (idxs n).length = n := by simp [idxs]
theorem idxs_get {n k : Nat} (h : k < n) : (idxs n)[k]? = some (k : Int) := by simp [idxs, h]
theorem idxs_mem {n : Nat} {x : Int} (h : x ∈ idxs n) : 0 ≤ x ∧ x < n := by
  simp only [idxs, List.mem_map, List.mem_range] at h
  obtain ⟨j, hj, rfl⟩ := h
  omega
theorem idxs_succ (n : Nat) : idxs (n + 1) = idxs n ++ [(n : Int)] := by simp [idxs, List.range_succ]
theorem ordP_mem {t s : Int} {W : List Int} {x : Int} (h : x ∈ ordP t s W) : 0 ≤ x ∧ x < W.length := idxs_mem ((srt_mem _ _).1 h)
theorem ordP_length (t s : Int) (W : List Int) : (ordP t s W).length = W.length := by rw [ordP, srt_length, idxs_length]
theorem sum_split (t s : Int) : ∀ W : List Int, s * sumI (baseP t s W) + sumI (rstP t s W) = t * sumI W
  | [] => by simp [baseP, rstP, sumI]
  | w :: W => by
    have ih := sum_split t s W
    simp only [baseP, rstP, List.map_cons, sumI] at ih ⊢
    have := Int.mul_ediv_add_emod (t * w) s
    rw [Int.mul_add, Int.mul_add]; omega
theorem rst_bd {t s : Int} (hs : 0 < s) : ∀ W : List Int, 0 ≤ sumI (rstP t s W) ∧ sumI (rstP t s W) ≤ W.length * (s - 1)
  | [] => by simp [rstP, sumI]
  | w :: W => by
    have ih := rst_bd hs (t := t) W
    simp only [rstP, List.map_cons, sumI, List.length_cons] at ih ⊢
    have h1 := Int.emod_nonneg (t * w) (show s ≠ 0 by omega)
    have h2 := Int.emod_lt_of_pos (t * w) hs
    have : ((W.length + 1 : Nat) : Int) * (s - 1) = (W.length : Int) * (s - 1) + (s - 1) := by
      rw [show ((W.length + 1 : Nat) : Int) = (W.length : Int) + 1 by omega, Int.add_mul, Int.one_mul]
    omega
theorem sumI_nonneg : ∀ {L : List Int}, (∀ x ∈ L, 0 ≤ x) → 0 ≤ sumI L
  | [], _ => by simp [sumI]
  | x :: L, h => by
    have := sumI_nonneg (fun y hy => h y (List.mem_cons_of_mem _ hy))
    have := h x (List.mem_cons_self ..)
    simp only [sumI]; omega
theorem sumI_le : ∀ {L : List Int} {B : Int}, (∀ x ∈ L, x ≤ B) → sumI L ≤ L.length * B
  | [], B, _ => by simp [sumI]
  | x :: L, B, h => by
    have h1 := sumI_le (fun y hy => h y (List.mem_cons_of_mem _ hy))
    have h2 := h x (List.mem_cons_self ..)
    have : ((L.length + 1 : Nat) : Int) * B = (L.length : Int) * B + B := by
      rw [show ((L.length + 1 : Nat) : Int) = (L.length : Int) + 1 by omega, Int.add_mul, Int.one_mul]
    simp only [sumI, List.length_cons]; omega
theorem sumI_mem {L : List Int} {w : Int} (h : ∀ x ∈ L, 0 ≤ x) (hw : w ∈ L) : w ≤ sumI L := by
  induction L with
  | nil => simp at hw
  | cons x L ih =>
    have h1 := sumI_nonneg (fun y hy => h y (List.mem_cons_of_mem _ hy))
    have h2 := h x (List.mem_cons_self ..)
    simp only [sumI]
    rcases List.mem_cons.1 hw with rfl | hw
    · omega
    · have := ih (fun y hy => h y (List.mem_cons_of_mem _ hy)) hw; omega
theorem left_bd {t : Int} {W : List Int} (h0 : 0 ≤ t) (hs : 0 < sumI W) : 0 ≤ leftP t (sumI W) W ∧ leftP t (sumI W) W < W.length := by
  have e := sum_split t (sumI W) W
  obtain ⟨r0, r1⟩ := rst_bd (t := t) hs W
  obtain ⟨B, hB⟩ : ∃ B, sumI (baseP t (sumI W) W) = B := ⟨_, rfl⟩
  obtain ⟨s, hS⟩ : ∃ s, sumI W = s := ⟨_, rfl⟩
  obtain ⟨R, hR⟩ : ∃ R, sumI (rstP t (sumI W) W) = R := ⟨_, rfl⟩
  unfold leftP
  rw [hB]
  rw [hR] at e r0 r1
  rw [hB] at e
  rw [hS] at e r1 hs
  have e2 : s * (t - B) = R := by rw [Int.mul_sub, Int.mul_comm s t]; omega
  obtain ⟨x, hx⟩ : ∃ x, t - B = x := ⟨_, rfl⟩
  rw [hx] at e2 ⊢
  have hl : 0 < W.length := by
    cases W with
    | nil => simp [sumI] at hS; omega
    | cons => simp
  constructor
  · rcases Int.lt_or_le x 0 with h | h
    · have := Int.mul_neg_of_pos_of_neg hs h; omega
    · exact h
  · rcases Int.lt_or_le x W.length with h | h
    · exact h
    · have h1 := Int.mul_le_mul_of_nonneg_left h (show 0 ≤ s by omega)
      have h2 : (W.length : Int) * (s - 1) = W.length * s - W.length := by rw [Int.mul_sub, Int.mul_one]
      rw [Int.mul_comm s (W.length : Int)] at h1
      omega
theorem base_bd {t : Int} {W : List Int} (h0 : 0 ≤ t) (hs : 0 < sumI W) (hw : ∀ w ∈ W, 0 ≤ w) : ∀ x ∈ baseP t (sumI W) W, 0 ≤ x ∧ x ≤ t := by
  intro x hx
  simp only [baseP, List.mem_map] at hx
  obtain ⟨w, hwm, rfl⟩ := hx
  have h1 := hw w hwm
  have h2 := sumI_mem hw hwm
  have h3 := Int.mul_nonneg h0 h1
  refine ⟨Int.ediv_nonneg h3 (by omega), ?_⟩
  have h4 := Int.mul_le_mul_of_nonneg_left h2 h0
  exact Int.le_trans (Int.ediv_le_ediv hs h4) (by rw [Int.mul_ediv_cancel _ (by omega)]; exact Int.le_refl _)
theorem sum_base_take {t : Int} {W : List Int} (h0 : 0 ≤ t) (hs : 0 < sumI W) (hw : ∀ w ∈ W, 0 ≤ w) (k : Nat) : 0 ≤ sumI ((baseP t (sumI W) W).take k) ∧ sumI ((baseP t (sumI W) W).take k) ≤ t := by
  have hb := base_bd h0 hs hw
  have h1 := left_bd h0 hs
  unfold leftP at h1
  have e : sumI ((baseP t (sumI W) W).take k) + sumI ((baseP t (sumI W) W).drop k) = sumI (baseP t (sumI W) W) := by rw [← sumI_append, List.take_append_drop]
  have h2 := sumI_nonneg (L := (baseP t (sumI W) W).take k) (fun x hx => (hb x (List.mem_of_mem_take hx)).1)
  have h3 := sumI_nonneg (L := (baseP t (sumI W) W).drop k) (fun x hx => (hb x (List.mem_of_mem_drop hx)).1)
  omega
theorem sum_take {W : List Int} (hw : ∀ w ∈ W, 0 ≤ w ∧ w ≤ 1000000) (k : Nat) : 0 ≤ sumI (W.take k) ∧ sumI (W.take k) ≤ W.length * 1000000 := by
  refine ⟨sumI_nonneg fun x hx => (hw x (List.mem_of_mem_take hx)).1, ?_⟩
  have := sumI_le (L := W.take k) (B := 1000000) (fun x hx => (hw x (List.mem_of_mem_take hx)).2)
  have h2 : (W.take k).length ≤ W.length := by rw [List.length_take]; omega
  omega
theorem wg_all {W : List Int} (h : W.any (fun w => !wgB w) = false) : ∀ w ∈ W, 0 ≤ w ∧ w ≤ 1000000 := by
  intro w hw
  have := List.any_eq_false.1 h w hw
  simp only [Bool.not_eq_true', Bool.not_eq_false, wgB] at this
  exact inB_iff.1 this
end Go.Proofs.Ytkdbdncboljfhaa
