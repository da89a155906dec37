/- slices.Clone at slices of structs. Printed by wip/gen/clone.py. -/
import Derived.Test.YthjaofgdickkaaaGreatOwn
import Derived.Test.YthjaofgdickkaaaGreatTypes
import Derived.WalkSpells
namespace Go.Proofs.YthjaofgdickkaaaGreat
open Go.RowKit
set_option linter.unusedVariables false
set_option linter.unusedSimpArgs false

theorem flatE_cells {α : Type} {z : Nat} {enc : α → List Value} (hz : ∀ a, (enc a).length = z) {w : World} {b : Nat} : ∀ (L : List α) (off : Nat), (∀ (k : Nat) (a : α), L[k]? = some a → ∀ i u, (enc a)[i]? = some u → w.cell? ⟨b, off + k * z + i, none⟩ = some u) → ∀ j u, (flatE enc L)[j]? = some u → w.cell? ⟨b, off + j, none⟩ = some u
  | [], off, h, j, u, hj => by simp [flatE] at hj
  | x :: L, off, h, j, u, hj => by
    have hj' : (enc x ++ flatE enc L)[j]? = some u := by simpa [flatE] using hj
    rcases Nat.lt_or_ge j z with hlt | hge
    · rw [List.getElem?_append_left (by rw [hz]; exact hlt)] at hj'
      have := h 0 x rfl j u hj'
      simpa using this
    · rw [List.getElem?_append_right (by rw [hz]; exact hge), hz] at hj'
      have := flatE_cells hz (w := w) (b := b) L (off + z) (fun k a hk i v hi => by
        have q := h (k + 1) a (by simpa using hk) i v hi
        rw [show off + (k + 1) * z + i = off + z + k * z + i by rw [Nat.add_mul]; omega] at q
        exact q) (j - z) u hj'
      rw [show off + z + (j - z) = off + j by omega] at this
      exact this
/-- what a copy is: a row of its own with the same elements -/
def Copied {α : Type} (z : Nat) (enc : α → List Value) (T : TypeId) (L : List α) (w : World) (e : Ending) (w' : World) : Prop :=
  ∃ v, e = .returned v ∧ w'.ownsRow w.heap.size T z v L.length (flatE enc L) ∧ Below w.heap.size w w'
theorem own_slice0 {w : World} {base : Nat} {e : TypeId} {z : Nat} {v : Value} {n : Nat} {xs : List Value} (h : w.ownsRow base e z v n xs) : ∃ ao c, v = .slice ao n c := by
  rcases h.2 with ⟨rfl, rfl⟩ | ⟨g, cap, cur, rfl, _⟩
  · exact ⟨_, _, rfl⟩
  · exact ⟨_, _, rfl⟩
set_option maxHeartbeats 1000000 in
theorem cloneSec_any (P : Nat → Prop) (v : Value) (L : List Sec) (w : World) (h : Sl 7 encSec P w v L) (hlen : L.length ≤ 1000000) :
    Calls Tryz.prog 250 #[v] w (Copied 7 encSec 26 L w) := by
  obtain ⟨ao, n, c, rfl, hn, hnc, hcm, hcase⟩ := h
  have hn1 : n ≤ 1000000 := by omega
  obtain ⟨i1, hi, hz0, hz1, hz2⟩ := info_parts infoSec
  have HN := Lib.hid hn
  have e1 := @Lib.run_eql_slice_nil
  cases ao with
  | none =>
    have h0 : n = 0 := by
      rcases hcase with h | ⟨b, off, h, _⟩
      · exact h
      · cases h
    subst h0
    have hL : L = [] := List.eq_nil_of_length_eq_zero HN.out
    subst hL
    clear hn hcase
    go_enter Tryz.func250, Tryz.ntmps250
    go_wp2
    go_ret
    exact ⟨_, rfl, World.ownsRow_nil _ _ _ _, brefl⟩
  | some a =>
    have hsrc : ∀ j u, (flatE encSec L)[j]? = some u → (w.alloc (.cells #[] 26)).cell? (a.add j) = some u := by
      rcases hcase with h | ⟨b, off, h, _, hb, hc⟩
      · have hL : L = [] := List.eq_nil_of_length_eq_zero (by omega)
        subst hL
        intro j u hj
        simp [flatE] at hj
      · cases h
        intro j u hj
        rw [add_litZ]
        exact keepA (flatE_cells encSec_len L off hc j u hj)
    have hown : (w.alloc (.cells #[] 26)).ownsRow w.heap.size 26 7 (.slice (some ⟨w.heap.size, 0, none⟩) 0 0) 0 [] := World.ownsRow_made w #[] 0 (Nat.le_refl _) (Nat.zero_le _) rfl
    have HS := Lib.hid hsrc
    have hfl : (flatE encSec L).length = n * 7 := by rw [flatE_length encSec_len, hn]
    have HF := Lib.hid hfl
    obtain ⟨X, hX⟩ : ∃ X, flatE encSec L = X := ⟨_, rfl⟩
    have ho : ∀ u ∈ X, u.oneCell' = true := by rw [← hX]; exact oneE oneSec L
    rw [hX] at HS HF
    have HX := Lib.hid hX
    have HO := Lib.hid ho
    clear hsrc hn hcase hfl hX ho
    obtain ⟨ab, ao, asp⟩ := a
    go_enter Tryz.func250, Tryz.ntmps250
    go_wp2_with (at_builtin; refine wpList_append_own _ rfl _ _ 27 rfl w.heap.size 26 i1 (.agg #[.int .i64 0, .int .i64 0, .int .i64 0, .int .i64 0, .int .i64 0, .int .i64 0, .bool false]) 7 56 Tryz.underlying27 hi hz0 hz1 hz2 rfl (by decide) _ _ _ rfl hown ⟨ab, ao, asp⟩ n c X rfl HF.out HS.out HO.out (by unfold maxLen; omega) (by omega) (by simp) ?_; intro v' w2 hown' hgrow _)
    obtain ⟨av, cv, rfl⟩ := own_slice0 hown'
    go_wp2
    go_ret
    exact ⟨_, rfl, by rw [HX.out, HN.out]; simpa using hown', (bal brefl _).grown hgrow (by simp) (fun q hq => by cases hq; exact Nat.le_refl _)⟩
set_option maxHeartbeats 1000000 in
theorem cloneHold_any (P : Nat → Prop) (v : Value) (L : List Hold) (w : World) (h : Sl 3 encHold P w v L) (hlen : L.length ≤ 1000000) :
    Calls Tryz.prog 251 #[v] w (Copied 3 encHold 171 L w) := by
  obtain ⟨ao, n, c, rfl, hn, hnc, hcm, hcase⟩ := h
  have hn1 : n ≤ 1000000 := by omega
  obtain ⟨i1, hi, hz0, hz1, hz2⟩ := info_parts infoHold
  have HN := Lib.hid hn
  have e1 := @Lib.run_eql_slice_nil
  cases ao with
  | none =>
    have h0 : n = 0 := by
      rcases hcase with h | ⟨b, off, h, _⟩
      · exact h
      · cases h
    subst h0
    have hL : L = [] := List.eq_nil_of_length_eq_zero HN.out
    subst hL
    clear hn hcase
    go_enter Tryz.func251, Tryz.ntmps251
    go_wp2
    go_ret
    exact ⟨_, rfl, World.ownsRow_nil _ _ _ _, brefl⟩
  | some a =>
    have hsrc : ∀ j u, (flatE encHold L)[j]? = some u → (w.alloc (.cells #[] 171)).cell? (a.add j) = some u := by
      rcases hcase with h | ⟨b, off, h, _, hb, hc⟩
      · have hL : L = [] := List.eq_nil_of_length_eq_zero (by omega)
        subst hL
        intro j u hj
        simp [flatE] at hj
      · cases h
        intro j u hj
        rw [add_litZ]
        exact keepA (flatE_cells encHold_len L off hc j u hj)
    have hown : (w.alloc (.cells #[] 171)).ownsRow w.heap.size 171 3 (.slice (some ⟨w.heap.size, 0, none⟩) 0 0) 0 [] := World.ownsRow_made w #[] 0 (Nat.le_refl _) (Nat.zero_le _) rfl
    have HS := Lib.hid hsrc
    have hfl : (flatE encHold L).length = n * 3 := by rw [flatE_length encHold_len, hn]
    have HF := Lib.hid hfl
    obtain ⟨X, hX⟩ : ∃ X, flatE encHold L = X := ⟨_, rfl⟩
    have ho : ∀ u ∈ X, u.oneCell' = true := by rw [← hX]; exact oneE oneHold L
    rw [hX] at HS HF
    have HX := Lib.hid hX
    have HO := Lib.hid ho
    clear hsrc hn hcase hfl hX ho
    obtain ⟨ab, ao, asp⟩ := a
    go_enter Tryz.func251, Tryz.ntmps251
    go_wp2_with (at_builtin; refine wpList_append_own _ rfl _ _ 28 rfl w.heap.size 171 i1 (.agg #[.int .i64 0, .int .i64 0, .int .i64 0]) 3 24 Tryz.underlying28 hi hz0 hz1 hz2 rfl (by decide) _ _ _ rfl hown ⟨ab, ao, asp⟩ n c X rfl HF.out HS.out HO.out (by unfold maxLen; omega) (by omega) (by simp) ?_; intro v' w2 hown' hgrow _)
    obtain ⟨av, cv, rfl⟩ := own_slice0 hown'
    go_wp2
    go_ret
    exact ⟨_, rfl, by rw [HX.out, HN.out]; simpa using hown', (bal brefl _).grown hgrow (by simp) (fun q hq => by cases hq; exact Nat.le_refl _)⟩
set_option maxHeartbeats 1000000 in
theorem cloneMv_any (P : Nat → Prop) (v : Value) (L : List Mv) (w : World) (h : Sl 7 encMv P w v L) (hlen : L.length ≤ 1000000) :
    Calls Tryz.prog 252 #[v] w (Copied 7 encMv 174 L w) := by
  obtain ⟨ao, n, c, rfl, hn, hnc, hcm, hcase⟩ := h
  have hn1 : n ≤ 1000000 := by omega
  obtain ⟨i1, hi, hz0, hz1, hz2⟩ := info_parts infoMv
  have HN := Lib.hid hn
  have e1 := @Lib.run_eql_slice_nil
  cases ao with
  | none =>
    have h0 : n = 0 := by
      rcases hcase with h | ⟨b, off, h, _⟩
      · exact h
      · cases h
    subst h0
    have hL : L = [] := List.eq_nil_of_length_eq_zero HN.out
    subst hL
    clear hn hcase
    go_enter Tryz.func252, Tryz.ntmps252
    go_wp2
    go_ret
    exact ⟨_, rfl, World.ownsRow_nil _ _ _ _, brefl⟩
  | some a =>
    have hsrc : ∀ j u, (flatE encMv L)[j]? = some u → (w.alloc (.cells #[] 174)).cell? (a.add j) = some u := by
      rcases hcase with h | ⟨b, off, h, _, hb, hc⟩
      · have hL : L = [] := List.eq_nil_of_length_eq_zero (by omega)
        subst hL
        intro j u hj
        simp [flatE] at hj
      · cases h
        intro j u hj
        rw [add_litZ]
        exact keepA (flatE_cells encMv_len L off hc j u hj)
    have hown : (w.alloc (.cells #[] 174)).ownsRow w.heap.size 174 7 (.slice (some ⟨w.heap.size, 0, none⟩) 0 0) 0 [] := World.ownsRow_made w #[] 0 (Nat.le_refl _) (Nat.zero_le _) rfl
    have HS := Lib.hid hsrc
    have hfl : (flatE encMv L).length = n * 7 := by rw [flatE_length encMv_len, hn]
    have HF := Lib.hid hfl
    obtain ⟨X, hX⟩ : ∃ X, flatE encMv L = X := ⟨_, rfl⟩
    have ho : ∀ u ∈ X, u.oneCell' = true := by rw [← hX]; exact oneE oneMv L
    rw [hX] at HS HF
    have HX := Lib.hid hX
    have HO := Lib.hid ho
    clear hsrc hn hcase hfl hX ho
    obtain ⟨ab, ao, asp⟩ := a
    go_enter Tryz.func252, Tryz.ntmps252
    go_wp2_with (at_builtin; refine wpList_append_own _ rfl _ _ 29 rfl w.heap.size 174 i1 (.agg #[.int .i64 0, .int .i64 0, .int .i64 0, .int .i64 0, .int .i64 0, .int .i64 0, .int .i64 0]) 7 56 Tryz.underlying29 hi hz0 hz1 hz2 rfl (by decide) _ _ _ rfl hown ⟨ab, ao, asp⟩ n c X rfl HF.out HS.out HO.out (by unfold maxLen; omega) (by omega) (by simp) ?_; intro v' w2 hown' hgrow _)
    obtain ⟨av, cv, rfl⟩ := own_slice0 hown'
    go_wp2
    go_ret
    exact ⟨_, rfl, by rw [HX.out, HN.out]; simpa using hown', (bal brefl _).grown hgrow (by simp) (fun q hq => by cases hq; exact Nat.le_refl _)⟩
end Go.Proofs.YthjaofgdickkaaaGreat
