/- slices.Clone at slices of bids and of numbers. Printed by wip/gen/clone.py. -/
import Derived.Test.YtkdbdncboljfhaaClone
import Derived.Test.YtkdbdncboljfhaaTypesA
import Derived.WalkSpells
namespace Go.Proofs.Ytkdbdncboljfhaa
open Go.RowKit
set_option linter.unusedVariables false
set_option linter.unusedSimpArgs false
theorem oneEI (a : Int) : ∀ u ∈ encI a, u.oneCell' = true := by
  intro u hu
  simp only [encI, List.mem_cons, List.not_mem_nil, or_false] at hu
  subst hu; rfl
set_option maxHeartbeats 1000000 in
theorem cloneEI_any (P : Nat → Prop) (v : Value) (L : List Int) (w : World) (h : Sl 1 encI P w v L) (hlen : L.length ≤ 1000000) :
    Calls Try.prog 38 #[v] w (Copied 1 encI 3 L w) := by
  obtain ⟨ao, n, c, rfl, hn, hnc, hcm, hcase⟩ := h
  have hn1 : n ≤ 1000000 := by omega
  obtain ⟨i1, hi, hz0, hz1, hz2⟩ := info_parts infoInt
  have HN := Lib.hid hn
  have e1 := @Lib.run_eql_slice_nil
  cases ao with
  | none =>
    have h0 : n = 0 := by
      rcases hcase with h | ⟨b, off, h, _⟩
      · exact h
      · cases h
    subst h0
    have hL : L = [] := List.eq_nil_of_length_eq_zero HN.out
    subst hL
    clear hn hcase
    go_enter Try.func38, Try.ntmps38
    go_wp2
    go_ret
    exact ⟨_, rfl, World.ownsRow_nil _ _ _ _, brefl⟩
  | some a =>
    have hsrc : ∀ j u, (flatE encI L)[j]? = some u → (w.alloc (.cells #[] 3)).cell? (a.add j) = some u := by
      rcases hcase with h | ⟨b, off, h, _, hb, hc⟩
      · have hL : L = [] := List.eq_nil_of_length_eq_zero (by omega)
        subst hL
        intro j u hj
        simp [flatE] at hj
      · cases h
        intro j u hj
        rw [add_litZ]
        exact keepA (flatE_cells encI_len L off hc j u hj)
    have hown : (w.alloc (.cells #[] 3)).ownsRow w.heap.size 3 1 (.slice (some ⟨w.heap.size, 0, none⟩) 0 0) 0 [] := World.ownsRow_made w #[] 0 (Nat.le_refl _) (Nat.zero_le _) rfl
    have HS := Lib.hid hsrc
    have hfl : (flatE encI L).length = n * 1 := by rw [flatE_length encI_len, hn]
    have HF := Lib.hid hfl
    obtain ⟨X, hX⟩ : ∃ X, flatE encI L = X := ⟨_, rfl⟩
    have ho : ∀ u ∈ X, u.oneCell' = true := by rw [← hX]; exact oneE oneEI L
    rw [hX] at HS HF
    have HX := Lib.hid hX
    have HO := Lib.hid ho
    clear hsrc hn hcase hfl hX ho
    obtain ⟨ab, ao, asp⟩ := a
    go_enter Try.func38, Try.ntmps38
    go_wp2_with (at_builtin; refine wpList_append_own _ rfl _ _ 22 rfl w.heap.size 3 i1 (.int .i64 0) 1 8 Try.underlying22 hi hz0 hz1 hz2 rfl (by decide) _ _ _ rfl hown ⟨ab, ao, asp⟩ n c X rfl HF.out HS.out HO.out (by unfold maxLen; omega) (by omega) (by simp) ?_; intro v' w2 hown' hgrow _)
    obtain ⟨av, cv, rfl⟩ := own_slice0 hown'
    go_wp2
    go_ret
    exact ⟨_, rfl, by rw [HX.out, HN.out]; simpa using hown', (bal brefl _).grown hgrow (by simp) (fun q hq => by cases hq; exact Nat.le_refl _)⟩
end Go.Proofs.Ytkdbdncboljfhaa
