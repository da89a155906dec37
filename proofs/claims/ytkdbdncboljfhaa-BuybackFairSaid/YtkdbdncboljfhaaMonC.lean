/- money.Parts in plain: what the parts are. -/
import Derived.Test.YtkdbdncboljfhaaMonP
namespace Go.Proofs.Ytkdbdncboljfhaa
open Go.RowKit
set_option linter.unusedVariables false
set_option linter.unusedSimpArgs false
theorem sumI_set {L : List Int} {i : Nat} {y : Int} (h : i < L.length) : sumI (L.set i y) = sumI L + y - L.getD i 0 := by
  induction L generalizing i with
  | nil => simp at h
  | cons x L ih =>
    cases i with
    | zero => simp [sumI]; omega
    | succ i =>
      have := ih (i := i) (by simpa using h)
      simp only [List.set_cons_succ, sumI, this, List.getD_cons_succ]; omega
theorem sumI_bump : ∀ (L I : List Int), (∀ x ∈ I, 0 ≤ x ∧ x < L.length) → sumI (bump L I) = sumI L + I.length
  | L, [], _ => by simp [bump]
  | L, i :: I, h => by
    have hi := h i (List.mem_cons_self ..)
    rw [bump, sumI_bump _ I (fun x hx => by rw [List.length_set]; exact h x (List.mem_cons_of_mem _ hx)), sumI_set (by omega)]
    simp only [List.length_cons]; omega
theorem bump_far : ∀ (L I : List Int) (k : Nat), (∀ x ∈ I, 0 ≤ x ∧ x ≠ k) → (bump L I)[k]? = L[k]?
  | L, [], _, _ => rfl
  | L, i :: I, k, h => by
    have hi := h i (List.mem_cons_self ..)
    rw [bump, bump_far _ I k (fun x hx => h x (List.mem_cons_of_mem _ hx)), List.getElem?_set_ne (by omega)]
theorem bump_at : ∀ (L I : List Int) (k : Nat) (z : Int), I.Nodup → (∀ x ∈ I, 0 ≤ x) → (k : Int) ∈ I → L[k]? = some z → (bump L I)[k]? = some (z + 1)
  | L, [], k, z, _, _, h, _ => by simp at h
  | L, i :: I, k, z, hn, h0, h, hz => by
    rw [List.nodup_cons] at hn
    rw [bump]
    by_cases hik : i = k
    · subst hik
      have hk : k < L.length := (List.getElem?_eq_some_iff.1 hz).1
      rw [bump_far _ I k (fun x hx => ⟨h0 x (List.mem_cons_of_mem _ hx), fun e => hn.1 (e ▸ hx)⟩)]
      rw [show ((k : Int)).toNat = k by omega, List.getElem?_set_self hk, List.getD_eq_getElem?_getD, hz]; rfl
    · have hm : (k : Int) ∈ I := by
        rcases List.mem_cons.1 h with h | h
        · exact absurd h.symm hik
        · exact h
      have hi0 := h0 i (List.mem_cons_self ..)
      exact bump_at _ I k z hn.2 (fun x hx => h0 x (List.mem_cons_of_mem _ hx)) hm (by rw [List.getElem?_set_ne (by omega)]; exact hz)
theorem idxs_nodup (n : Nat) : (idxs n).Nodup := by
  unfold idxs
  refine List.Pairwise.map _ ?_ List.nodup_range
  intro a b h; omega
theorem ordP_nodup (t s : Int) (W : List Int) : (ordP t s W).Nodup := (srt_perm _).nodup_iff.2 (idxs_nodup _)
theorem ordP_mem2 {t s : Int} {W : List Int} {k : Nat} (h : k < W.length) : (k : Int) ∈ ordP t s W := (srt_mem _ _).2 (by simp only [idxs, List.mem_map, List.mem_range]; exact ⟨k, h, rfl⟩)
theorem ordP_split {t s : Int} {W : List Int} (m : Nat) {x y : Int} (hx : x ∈ (ordP t s W).take m) (hy : y ∈ (ordP t s W).drop m) : rAt t s W y ≤ rAt t s W x := by
  have h := srt_asc (cfP_wk t s W) (idxs W.length)
  have e : srt (ltc (cfP t s W)) (idxs W.length) = (ordP t s W).take m ++ (ordP t s W).drop m := (List.take_append_drop m _).symm
  rw [e, asc_append] at h
  have h3 : ¬ cfP t s W y x < 0 := by simpa [ltc] using h.2.2 x hx y hy
  rcases Int.lt_or_le (rAt t s W x) (rAt t s W y) with h | h
  · exact absurd (show cfP t s W y x < 0 by unfold cfP cmpI; rw [if_pos h]; omega) h3
  · exact h
theorem sumI_perm {A B : List Int} (h : A.Perm B) : sumI A = sumI B := by
  induction h with
  | nil => rfl
  | cons x _ ih => simp only [sumI, ih]
  | swap x y l => simp only [sumI]; omega
  | trans _ _ ih1 ih2 => rw [ih1, ih2]
theorem rAt_get {t s : Int} {W : List Int} {k : Nat} {v : Int} (h : W[k]? = some v) : rAt t s W k = t * v % s := by simp [rAt, rstP, List.getD_eq_getElem?_getD, h]
theorem rAt_bd {t s : Int} {W : List Int} (hs : 0 < s) (k : Int) : 0 ≤ rAt t s W k ∧ rAt t s W k ≤ s - 1 := by
  unfold rAt
  rw [List.getD_eq_getElem?_getD]
  cases h : (rstP t s W)[k.toNat]? with
  | none => simp; omega
  | some v =>
    simp only [rstP, List.getElem?_map, Option.map_eq_some_iff] at h
    obtain ⟨a, _, rfl⟩ := h
    have h1 := Int.emod_nonneg (t * a) (show s ≠ 0 by omega)
    have h2 := Int.emod_lt_of_pos (t * a) hs
    simp; omega
theorem map_rAt (t s : Int) (W : List Int) : (idxs W.length).map (rAt t s W) = rstP t s W := by
  refine List.ext_getElem? fun k => ?_
  by_cases h : k < W.length
  · simp [idxs, rAt, rstP, h]
  · rw [List.getElem?_eq_none (by simp [idxs]; omega), List.getElem?_eq_none (by simp [rstP]; omega)]
theorem sum_ord (t s : Int) (W : List Int) : sumI ((ordP t s W).map (rAt t s W)) = sumI (rstP t s W) := by
  rw [← map_rAt]
  exact sumI_perm ((srt_perm _).map _)
theorem sum_le_of {L : List Int} {f : Int → Int} {B : Int} (h : ∀ x ∈ L, f x ≤ B) : sumI (L.map f) ≤ L.length * B := by
  have := sumI_le (L := L.map f) (B := B) (fun x hx => by obtain ⟨y, hy, rfl⟩ := List.mem_map.1 hx; exact h y hy)
  rwa [List.length_map] at this
/-- no rest, no more -/
theorem rest_zero_s {t s : Int} {W : List Int} (h0 : 0 ≤ t) (hs : 0 < s) (hS : sumI W = s) {k : Int} (hr : rAt t s W k = 0) : k ∉ (ordP t s W).take (leftP t s W).toNat := by
  intro hk
  have hl := left_bd (t := t) (W := W) h0 (by omega)
  have e := sum_split t s W
  have eo := sum_ord t s W
  rw [hS] at hl e
  obtain ⟨m, hm⟩ := Int.eq_ofNat_of_zero_le hl.1
  rw [hm] at hk hl
  have hmt : ((m : Int)).toNat = m := by omega
  rw [hmt] at hk
  have hO : ordP t s W = (ordP t s W).take m ++ (ordP t s W).drop m := (List.take_append_drop m _).symm
  have hD : sumI (((ordP t s W).drop m).map (rAt t s W)) ≤ ((ordP t s W).drop m).length * 0 := sum_le_of fun y hy => by have := ordP_split m hk hy; omega
  obtain ⟨A, B, hAB⟩ := List.append_of_mem hk
  have hT : sumI (((ordP t s W).take m).map (rAt t s W)) ≤ ((A ++ B).length : Int) * (s - 1) := by
    rw [hAB, List.map_append, List.map_cons, sumI_append, sumI, hr]
    have h1 := sum_le_of (L := A) (f := rAt t s W) (B := s - 1) fun x _ => (rAt_bd hs x).2
    have h2 := sum_le_of (L := B) (f := rAt t s W) (B := s - 1) fun x _ => (rAt_bd hs x).2
    rw [List.length_append, show ((A.length + B.length : Nat) : Int) = A.length + B.length by omega, Int.add_mul]
    omega
  have hlen : (A ++ B).length + 1 ≤ m := by
    have : ((ordP t s W).take m).length ≤ m := by rw [List.length_take]; omega
    rw [hAB] at this
    simp only [List.length_append, List.length_cons] at this ⊢
    omega
  rw [hO, List.map_append, sumI_append] at eo
  have hleft : s * (m : Int) = sumI (rstP t s W) := by
    have : leftP t s W = m := hm
    unfold leftP at this
    rw [← this, Int.mul_sub, Int.mul_comm s t]; omega
  have h3 : ((A ++ B).length : Int) * (s - 1) ≤ ((m : Int) - 1) * (s - 1) := Int.mul_le_mul_of_nonneg_right (by omega) (by omega)
  have e5 : ((m : Int) - 1) * (s - 1) = s * m - m - (s - 1) := by rw [Int.sub_mul, Int.one_mul, Int.mul_sub, Int.mul_one, Int.mul_comm (m : Int) s]
  rw [e5] at h3
  omega
theorem rest_zero {t : Int} {W : List Int} (h0 : 0 ≤ t) (hs : 0 < sumI W) {k : Int} (hr : rAt t (sumI W) W k = 0) : k ∉ (ordP t (sumI W) W).take (leftP t (sumI W) W).toNat := rest_zero_s h0 hs rfl hr
theorem parts_len (t s : Int) (W : List Int) : (partsR t s W).length = W.length := by rw [partsR, bump_length]; simp [baseP]
theorem parts_get {t s : Int} {W : List Int} {k : Nat} {v : Int} (h : W[k]? = some v) :
    (partsR t s W)[k]? = some (t * v / s + if (k : Int) ∈ (ordP t s W).take (leftP t s W).toNat then 1 else 0) := by
  have hb : (baseP t s W)[k]? = some (t * v / s) := by simp [baseP, h]
  have hm : ∀ x ∈ (ordP t s W).take (leftP t s W).toNat, 0 ≤ x := fun x hx => (ordP_mem (List.mem_of_mem_take hx)).1
  unfold partsR
  split
  · rename_i hk
    exact bump_at _ _ k _ ((ordP_nodup t s W).sublist (List.take_sublist _ _)) hm hk hb
  · rename_i hk
    rw [bump_far _ _ k fun x hx => ⟨hm x hx, fun e => hk (e ▸ hx)⟩, hb]; simp
structure PartsFair (t : Int) (W p : List Int) : Prop where
  len : p.length = W.length
  get : ∀ (k : Nat) (v : Int), W[k]? = some v → ∃ x, p[k]? = some x ∧ t * v / sumI W ≤ x ∧ x ≤ t * v / sumI W + 1 ∧ (t * v % sumI W = 0 → x = t * v / sumI W) ∧ (v = 0 → x = 0)
  pair : ∀ (i k : Nat) (v u x y : Int), W[i]? = some v → W[k]? = some u → p[i]? = some x → p[k]? = some y → u < v → y ≤ x
  sum : sumI p = t
theorem PartsFair.nonneg {t : Int} {W p : List Int} (h : PartsFair t W p) (h0 : 0 ≤ t) (hs : 0 < sumI W) (hw : ∀ w ∈ W, 0 ≤ w) : ∀ x ∈ p, 0 ≤ x := by
  intro x hx
  obtain ⟨i, hi, rfl⟩ := List.getElem_of_mem hx
  obtain ⟨v, hv⟩ : ∃ v, W[i]? = some v := ⟨_, List.getElem?_eq_getElem (by have := h.len; omega)⟩
  obtain ⟨y, hy, h1, _⟩ := h.get i v hv
  rw [List.getElem?_eq_getElem hi] at hy
  cases hy
  have := Int.ediv_nonneg (Int.mul_nonneg h0 (hw v (List.mem_of_getElem? hv))) (show 0 ≤ sumI W by omega)
  omega
theorem PartsFair.take {t : Int} {W p : List Int} (h : PartsFair t W p) (h0 : 0 ≤ t) (hs : 0 < sumI W) (hw : ∀ w ∈ W, 0 ≤ w) (k : Nat) : 0 ≤ sumI (p.take k) ∧ sumI (p.take k) ≤ t := by
  have hn := h.nonneg h0 hs hw
  have e : sumI (p.take k) + sumI (p.drop k) = t := by rw [← sumI_append, List.take_append_drop]; exact h.sum
  have h1 := sumI_nonneg (L := p.take k) (fun x hx => hn x (List.mem_of_mem_take hx))
  have h2 := sumI_nonneg (L := p.drop k) (fun x hx => hn x (List.mem_of_mem_drop hx))
  omega
theorem parts_fair {t : Int} {W : List Int} (h0 : 0 ≤ t) (hs : 0 < sumI W) (hw : ∀ w ∈ W, 0 ≤ w) : PartsFair t W (partsR t (sumI W) W) := by
  refine ⟨parts_len _ _ _, fun k v hv => ?_, fun i k v u x y hv hu hx hy huv => ?_, ?_⟩
  · refine ⟨_, parts_get hv, ?_⟩
    have hz : t * v % sumI W = 0 → (k : Int) ∉ (ordP t (sumI W) W).take (leftP t (sumI W) W).toNat := fun h => rest_zero h0 hs (by rw [rAt_get hv]; exact h)
    refine ⟨by split <;> omega, by split <;> omega, fun h => by rw [if_neg (hz h)]; omega, fun h => ?_⟩
    subst h
    rw [if_neg (hz (by simp))]; simp
  · rw [parts_get hv] at hx
    rw [parts_get hu] at hy
    cases hx; cases hy
    have hm : t * u ≤ t * v := Int.mul_le_mul_of_nonneg_left (by omega) h0
    have hd := Int.ediv_le_ediv hs hm
    have e1 := Int.mul_ediv_add_emod (t * u) (sumI W)
    have e2 := Int.mul_ediv_add_emod (t * v) (sumI W)
    rcases Int.lt_or_le (t * u / sumI W) (t * v / sumI W) with h | h
    · split <;> split <;> omega
    · have he : t * u / sumI W = t * v / sumI W := by omega
      rw [he] at e1 ⊢
      split
      · rename_i hk
        rw [if_pos]
        · omega
        · rcases Int.lt_or_le (t * u % sumI W) (t * v % sumI W) with hr | hr
          · have := ordP_mem2 (t := t) (s := sumI W) (List.getElem?_eq_some_iff.1 hv).1
            rw [← List.take_append_drop (leftP t (sumI W) W).toNat (ordP t (sumI W) W), List.mem_append] at this
            rcases this with h | h
            · exact h
            · have := ordP_split _ hk h
              rw [rAt_get hv, rAt_get hu] at this; omega
          · -- equal products
            have heq : t * u = t * v := by omega
            have ht : t = 0 := by
              rcases Int.lt_or_le 0 t with h | h
              · have := Int.mul_lt_mul_of_pos_left huv h; omega
              · omega
            exfalso
            refine rest_zero h0 hs (k := k) ?_ hk
            rw [rAt_get hu, ht]; simp
      · split <;> omega
  · rw [partsR, sumI_bump _ _ fun x hx => by have := ordP_mem (List.mem_of_mem_take hx); simpa [baseP] using this]
    have hl := left_bd (t := t) (W := W) h0 hs
    rw [List.length_take, ordP_length]
    unfold leftP at hl ⊢
    omega
end Go.Proofs.Ytkdbdncboljfhaa
