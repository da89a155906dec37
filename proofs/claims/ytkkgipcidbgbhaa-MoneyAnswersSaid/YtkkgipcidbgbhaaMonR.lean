/- money.Parts and its reference in plain: the greatest rest, one after another. -/
import Derived.Test.YtkkgipcidbgbhaaMonC
namespace Go.Proofs.Ytkkgipcidbgbhaa
open Go.RowKit
set_option linter.unusedVariables false
set_option linter.unusedSimpArgs false
/-- -1 at some places -/
def mark : List Int → List Int → List Int
  | L, [] => L
  | L, i :: I => mark (L.set i.toNat (-1)) I
theorem mark_append : ∀ (L I J : List Int), mark L (I ++ J) = mark (mark L I) J
  | L, [], J => rfl
  | L, i :: I, J => by rw [List.cons_append, mark, mark, mark_append]
theorem mark_length : ∀ (L I : List Int), (mark L I).length = L.length
  | L, [] => rfl
  | L, i :: I => by rw [mark, mark_length, List.length_set]
theorem mark_far : ∀ (L I : List Int) (k : Nat), (∀ x ∈ I, 0 ≤ x ∧ x ≠ k) → (mark L I)[k]? = L[k]?
  | L, [], _, _ => rfl
  | L, i :: I, k, h => by
    have hi := h i (List.mem_cons_self ..)
    rw [mark, mark_far _ _ k (fun x hx => h x (List.mem_cons_of_mem _ hx)), List.getElem?_set_ne (by omega)]
theorem mark_at : ∀ (L I : List Int) (k : Nat), (∀ x ∈ I, 0 ≤ x) → (k : Int) ∈ I → k < L.length → (mark L I)[k]? = some (-1)
  | L, [], k, _, h, _ => by simp at h
  | L, i :: I, k, h0, h, hk => by
    rw [mark]
    by_cases hm : (k : Int) ∈ I
    · exact mark_at _ _ k (fun x hx => h0 x (List.mem_cons_of_mem _ hx)) hm (by rw [List.length_set]; exact hk)
    · have hi : (k : Int) = i := by
        rcases List.mem_cons.1 h with h | h
        · exact h
        · exact absurd h hm
      subst hi
      rw [mark_far _ _ k (fun x hx => ⟨h0 x (List.mem_cons_of_mem _ hx), fun e => hm (e ▸ hx)⟩)]
      simp [hk]
/-- b is the first greatest one of those below j -/
def Best (R : List Int) (b j : Nat) : Prop := ∀ y, R[b]? = some y → (∀ i x, i < j → R[i]? = some x → x ≤ y) ∧ (∀ i x, i < b → R[i]? = some x → x < y)
theorem best_zero (R : List Int) : Best R 0 0 := fun y hy => ⟨fun i x h => by omega, fun i x h => by omega⟩
theorem best_up {R : List Int} {b j : Nat} {x y : Int} (h : Best R b j) (hb : R[b]? = some y) (hj : R[j]? = some x) (hlt : y < x) : Best R j (j + 1) := by
  intro z hz
  cases hj.symm.trans hz
  refine ⟨fun i u hi hu => ?_, fun i u hi hu => ?_⟩
  · by_cases he : i = j
    · subst he; cases hj.symm.trans hu; omega
    · have := (h y hb).1 i u (by omega) hu; omega
  · have := (h y hb).1 i u (by omega) hu; omega
theorem best_stay {R : List Int} {b j : Nat} {x y : Int} (h : Best R b j) (hb : R[b]? = some y) (hj : R[j]? = some x) (hlt : x ≤ y) : Best R b (j + 1) := by
  intro z hz
  cases hb.symm.trans hz
  refine ⟨fun i u hi hu => ?_, (h y hb).2⟩
  by_cases he : i = j
  · subst he; cases hj.symm.trans hu; omega
  · exact (h y hb).1 i u (by omega) hu
theorem best_one {R : List Int} {b o n : Nat} (hn : R.length = n) (hb : b < n) (ho : o < n) (h1 : Best R b n) (h2 : Best R o n) : b = o := by
  obtain ⟨y, hy⟩ : ∃ y, R[b]? = some y := ⟨_, List.getElem?_eq_getElem (by omega)⟩
  obtain ⟨z, hz⟩ : ∃ z, R[o]? = some z := ⟨_, List.getElem?_eq_getElem (by omega)⟩
  rcases Nat.lt_trichotomy b o with h | h | h
  · have a1 := (h2 z hz).2 b y h hy
    have a2 := (h1 y hy).1 o z ho hz
    omega
  · exact h
  · have a1 := (h1 y hy).2 o z h hz
    have a2 := (h2 z hz).1 b y hb hy
    omega
theorem idxs_asc (n : Nat) : (idxs n).Pairwise (· < ·) := by
  unfold idxs
  refine List.Pairwise.map _ ?_ List.pairwise_lt_range
  intro a b h; omega
theorem ltcP {t s : Int} {W : List Int} {x y : Int} : ltc (cfP t s W) x y = decide (rAt t s W y < rAt t s W x) := by
  unfold ltc cfP cmpI
  rw [decide_eq_decide]
  repeat' split
  all_goals omega
theorem ordP_top {t s : Int} {W : List Int} (hs : 0 < s) {k : Nat} {o : Nat} (ho : (ordP t s W)[k]? = some (o : Int)) : Best (mark (rstP t s W) ((ordP t s W).take k)) o W.length := by
  have hp := srt_ahd (cfP_wk t s W) (idxs_asc W.length)
  have hsp : srt (ltc (cfP t s W)) (idxs W.length) = (ordP t s W).take k ++ (o : Int) :: (ordP t s W).drop (k + 1) := by
    rw [← drop_cons ho, List.take_append_drop]; rfl
  have hnd : ((ordP t s W).take k ++ (o : Int) :: (ordP t s W).drop (k + 1)).Nodup := by rw [← hsp]; exact ordP_nodup t s W
  rw [hsp] at hp
  have h1 := (List.pairwise_cons.1 (List.pairwise_append.1 hp).2.1).1
  have hno : (o : Int) ∉ (ordP t s W).take k := fun hm => (List.nodup_append.1 hnd).2.2 _ hm _ (List.mem_cons_self ..) rfl
  have h0 : ∀ x ∈ (ordP t s W).take k, 0 ≤ x := fun x hx => (ordP_mem (List.mem_of_mem_take hx)).1
  have hol : o < W.length := by have := (ordP_mem (t := t) (s := s) (W := W) (List.mem_of_getElem? ho)).2; omega
  have hrl : (rstP t s W).length = W.length := by simp [rstP]
  intro y hy
  rw [mark_far _ _ o (fun x hx => ⟨h0 x hx, fun e => hno (e ▸ hx)⟩)] at hy
  have hyr : rAt t s W o = y := by unfold rAt; rw [List.getD_eq_getElem?_getD]; simp [hy]
  have hyb := rAt_bd (t := t) (W := W) hs (o : Int)
  rw [hyr] at hyb
  have key : ∀ i x, i < W.length → i ≠ o → (mark (rstP t s W) ((ordP t s W).take k))[i]? = some x → x ≤ y ∧ (i < o → x < y) := by
    intro i x hi hio hx
    by_cases hm : (i : Int) ∈ (ordP t s W).take k
    · rw [mark_at _ _ i h0 hm (by omega)] at hx
      cases hx
      omega
    · rw [mark_far _ _ i (fun z hz => ⟨h0 z hz, fun e => hm (e ▸ hz)⟩)] at hx
      have hxr : rAt t s W i = x := by unfold rAt; rw [List.getD_eq_getElem?_getD]; simp [hx]
      have hin : (i : Int) ∈ (ordP t s W).drop (k + 1) := by
        have := ordP_mem2 (t := t) (s := s) hi
        have e : (i : Int) ∈ srt (ltc (cfP t s W)) (idxs W.length) := this
        rw [hsp] at e
        rcases List.mem_append.1 e with h | h
        · exact absurd h hm
        · rcases List.mem_cons.1 h with h | h
          · omega
          · exact h
      have ha := h1 _ hin
      unfold Ahd at ha
      rw [ltcP, ltcP, hxr, hyr] at ha
      simp only [decide_eq_true_eq, decide_eq_false_iff_not] at ha
      omega
  refine ⟨fun i x hi hx => ?_, fun i x hi hx => (key i x (by omega) (by omega) hx).2 hi⟩
  by_cases hio : i = o
  · subst hio
    rw [mark_far _ _ i (fun x hx => ⟨h0 x hx, fun e => hno (e ▸ hx)⟩)] at hx
    cases hx.symm.trans hy; omega
  · exact (key i x hi hio hx).1
end Go.Proofs.Ytkkgipcidbgbhaa
