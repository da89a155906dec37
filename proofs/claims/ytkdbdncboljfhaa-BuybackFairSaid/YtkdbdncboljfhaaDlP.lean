/- Striking elements of a list in place. No program in sight. -/
import Derived.Test.YtkdbdncboljfhaaRowZ
import Derived.Test.YtkdbdncboljfhaaOwn
namespace Go.Proofs.Ytkdbdncboljfhaa
open Go.RowKit
set_option linter.unusedVariables false
/-- what lies in the row when j elements have been looked at and i kept -/
structure DlI {α : Type} (L : List α) (p : α → Bool) (D : List α) (i j : Nat) : Prop where
  len : D.length = L.length
  lo : D.take i = (L.take j).filter fun x => !p x
  hi : D.drop j = L.drop j
  lt : i < j
  le : j ≤ L.length
theorem own_sl {w : World} {base : Nat} {e : TypeId} {z : Nat} {v : Value} {n : Nat} {xs : List Value} (h : w.ownsRow base e z v n xs) : ∃ ao c, v = .slice ao n c := by
  rcases h.2 with ⟨rfl, rfl⟩ | ⟨g, cap, cur, rfl, _⟩
  · exact ⟨_, _, rfl⟩
  · exact ⟨_, _, rfl⟩
section
variable {α : Type} {L D : List α} {p : α → Bool} {i j : Nat}
theorem dl_find : ∀ {L : List α} {k : Nat}, L.findIdx p = k → k < L.length → (L.take (k + 1)).filter (fun x => !p x) = L.take k
  | [], k, _, h => by simp at h
  | x :: L, k, h, hk => by
    rw [List.findIdx_cons] at h
    cases hx : p x with
    | true => rw [hx] at h; simp at h; subst h; simp [hx]
    | false =>
      rw [hx] at h
      simp only [cond_false] at h
      subst h
      simp only [List.length_cons] at hk
      have := dl_find (L := L) rfl (by omega)
      simp only [List.take_succ_cons, List.filter_cons, hx, Bool.not_false, if_true]
      rw [this]
theorem dl_none : ∀ {L : List α}, L.length ≤ L.findIdx p → L.filter (fun x => !p x) = L
  | [], _ => rfl
  | x :: L, h => by
    rw [List.findIdx_cons] at h
    cases hx : p x with
    | true => rw [hx] at h; simp at h
    | false =>
      rw [hx] at h
      simp only [cond_false, List.length_cons] at h
      have := dl_none (L := L) (by omega)
      simp [hx, this]
theorem DlI.start {k : Nat} (h : L.findIdx p = k) (hk : k < L.length) : DlI L p L k (k + 1) := ⟨rfl, (dl_find h hk).symm, rfl, by omega, by omega⟩
theorem DlI.get (h : DlI L p D i j) : D[j]? = L[j]? := by
  have := h.hi
  have e1 : (D.drop j)[0]? = (L.drop j)[0]? := by rw [this]
  simpa using e1
theorem DlI.skip (h : DlI L p D i j) {x : α} (hx : L[j]? = some x) (hp : p x = true) : DlI L p D i (j + 1) := by
  have hj := (List.getElem?_eq_some_iff.1 hx).1
  refine ⟨h.len, ?_, ?_, by have := h.lt; omega, by omega⟩
  · rw [take_snocZ hx, List.filter_append, ← h.lo]; simp [hp]
  · have := congrArg (List.drop 1) h.hi
    simpa [List.drop_drop] using this
theorem DlI.keep (h : DlI L p D i j) {x : α} (hx : L[j]? = some x) (hp : p x = false) : DlI L p (D.set i x) (i + 1) (j + 1) := by
  have hj := (List.getElem?_eq_some_iff.1 hx).1
  have hl := h.len
  have hlt := h.lt
  refine ⟨by simpa using h.len, ?_, ?_, by omega, by omega⟩
  · have e : (D.set i x)[i]? = some x := by rw [List.getElem?_set]; simp; omega
    rw [take_snocZ hx, List.filter_append, ← h.lo, take_snocZ e, List.take_set_of_le (Nat.le_refl _)]; simp [hp]
  · have := congrArg (List.drop 1) h.hi
    rw [List.drop_set_of_lt (by omega)]
    simpa [List.drop_drop] using this
theorem zero_one {Z : Array Value} (h : ∀ u ∈ Z.toList, u.oneCell' = true) (n : Nat) : ∀ u ∈ (Builtin.zeroCells Z n).toList, u.oneCell' = true := by
  intro u hu
  simp only [Builtin.zeroCells, Array.toList_map, List.mem_map] at hu
  obtain ⟨i, hi, rfl⟩ := hu
  have hlt : i < n * Z.size := by simpa using hi
  have hz : 0 < Z.size := by rcases Nat.eq_zero_or_pos Z.size with h0 | h0; (· rw [h0] at hlt; omega); · exact h0
  have hm : i % Z.size < Z.size := Nat.mod_lt _ hz
  rw [getElem!_pos Z _ hm]
  exact h _ (by simp)
theorem DlI.fin (h : DlI L p D i j) (hj : L.length ≤ j) : D.take i = L.filter fun x => !p x := by rw [h.lo, take_all hj]
theorem DlI.ilt (h : DlI L p D i j) : i < D.length := by have := h.len; have := h.lt; have := h.le; omega
/-- the row cut and its tail cleared -/
theorem RowZ.cut {T : TypeId} {z : Nat} {enc : α → List Value} (hz : ∀ a, (enc a).length = z) {base g n cap : Nat} {w W : World} {Z : List Value} (h : RowZ T z enc base g n cap D w) (hi : i ≤ n) (hZ : Z.length = (n - i) * z)
    (hW : ∀ cur, w.heap[g]? = some (.cells cur T (0, 0)) → W.heap[g]? = some (.cells (cur.toList.take (i * z) ++ Z ++ cur.toList.drop (i * z + Z.length)).toArray T (0, 0))) (hn : 0 < n) : RowZ T z enc base g i cap (D.take i) W := by
  obtain ⟨g', cap', rest, he, hbg, hg, hnc, hcm, hxl, hrl⟩ := own_whole h.1 hn
  cases he
  have hdl := h.2
  have hl : (D.take i).length = i := by rw [List.length_take]; omega
  have hf : flatE enc D = flatE enc (D.take i) ++ flatE enc (D.drop i) := by rw [← flatE_append, List.take_append_drop]
  have hfl : (flatE enc (D.take i)).length = i * z := by rw [flatE_length hz, hl]
  refine ⟨?_, hl⟩
  have hq := hW _ hg
  have e : (flatE enc D ++ rest).toArray.toList.take (i * z) = flatE enc (D.take i) := by
    simp only [hf, List.append_assoc]
    rw [← hfl]; exact List.take_left
  rw [e, List.append_assoc] at hq
  refine own_mk hbg hq (by omega) hcm hfl ?_
  simp only [List.length_append, hfl, hZ, List.length_drop, List.length_append] at hrl ⊢
  rw [hxl] at hrl
  have : (n - i) * z + i * z = n * z := by rw [← Nat.add_mul, show n - i + i = n by omega]
  rw [hxl]
  omega
end
end Go.Proofs.Ytkdbdncboljfhaa
