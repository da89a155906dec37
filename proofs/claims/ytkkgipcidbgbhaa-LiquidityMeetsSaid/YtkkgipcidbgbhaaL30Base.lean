/- Layer 30: the example of the chapter; bands of the source in plain bounds. -/
import Derived.Test.YtkkgipcidbgbhaaLiq
import Derived.Test.YtkkgipcidbgbhaaBand
namespace Go.Proofs.Ytkkgipcidbgbhaa
open Go.RowKit
set_option linter.unusedVariables false

theorem law30lots_any (w : World) : Calls Try.prog 52 #[] w fun e w' => e = .returned (.agg #[.int .i64 0, .int .i64 10, .int .i64 4, .int .i64 100, .int .i64 100]) ∧ Below w.heap.size w w' := by
  go_enter Try.func52, Try.ntmps52
  go_wp2
  exact bodyPost_ret (v := .agg #[.int .i64 0, .int .i64 10, .int .i64 4, .int .i64 100, .int .i64 100]) (by simp [results, Try.results52, go_sem]) rfl ⟨rfl, (Below.refl _ _).alloc (Nat.le_refl _) _⟩

theorem below_up {w w1 w2 : World} (h : Below w.heap.size w w1) (k : Below w1.heap.size w1 w2) : Below w.heap.size w w2 := h.trans (k.mono h.size)

set_option maxHeartbeats 400000 in
theorem sane30_any (w : World) : Calls Try.prog 14 #[] w fun e w' => e = .returned (.bool true) ∧ Below w.heap.size w w' := by
  have d1 : decR 0 10 4 100 100 (-5) = 8 ∧ decP 0 10 4 100 100 (-5) = 0 ∧ decO 0 10 4 100 100 (-5) = true := by decide
  have d2 : decR 0 10 4 100 100 15 = 0 ∧ decP 0 10 4 100 100 15 = 8 ∧ decO 0 10 4 100 100 15 = true := by decide
  have d3 : bandE 0 10 4 100 100 = 0 := by decide
  have D1 := Lib.hid d1
  have D2 := Lib.hid d2
  have D3 := Lib.hid d3
  clear d1 d2 d3
  go_enter Try.func14, Try.ntmps14
  go_wp2_with fail
  refine (law30lots_any _).mono ?_
  rintro e w1 ⟨rfl, hb1⟩
  go_wp2_with fail
  refine (decide_any _ _ _ _ _ _ _).mono ?_
  rw [D1.out.1, D1.out.2.1, D1.out.2.2]
  rintro e w2 ⟨rfl, hb2⟩
  go_wp2_with fail
  refine (law30lots_any _).mono ?_
  rintro e w3 ⟨rfl, hb3⟩
  go_wp2_with fail
  refine (decide_any _ _ _ _ _ _ _).mono ?_
  rw [D2.out.1, D2.out.2.1, D2.out.2.2]
  rintro e w4 ⟨rfl, hb4⟩
  go_wp2_with fail
  refine (law30lots_any _).mono ?_
  rintro e w5 ⟨rfl, hb5⟩
  go_wp2_with fail
  refine (liqcheck_any _ _ _ _ _ _).mono ?_
  rw [D3.out]
  rintro e w6 ⟨rfl, hb6⟩
  go_wp2
  go_ret
  exact ⟨rfl, below_up (below_up (below_up (below_up (below_up hb1 hb2) hb3) hb4) hb5) hb6⟩
theorem bandLike_bd {lo hi lot mr mp : Int} (h : BandLike lo hi lot mr mp) : -50 ≤ lo ∧ lo ≤ 20 ∧ lo ≤ hi ∧ hi ≤ lo + 100 ∧ 1 ≤ lot ∧ lot ≤ 25 ∧ 0 ≤ mr ∧ mr ≤ 1000 ∧ 0 ≤ mp ∧ mp ≤ 1000 := by
  obtain ⟨h1, h2, h3, h4, h5⟩ := h
  simp at h1 h2 h3 h4 h5
  omega
theorem below_up' {B : Nat} {w w1 w2 : World} (h : Below B w w1) (k : Below w1.heap.size w1 w2) (hB : B ≤ w.heap.size := by omega) : Below B w w2 := h.trans (k.mono (Nat.le_trans hB h.size))
end Go.Proofs.Ytkkgipcidbgbhaa
