/- the reference's register: Same, at equal registers. -/
import Derived.Test.YtjfngogfiafipaaZRefL
namespace Go.Proofs.Ytjfngogfiafipaa
open Go.RowKit
set_option linter.unusedVariables false
set_option linter.unusedSimpArgs false
theorem eqHs_self (L : List Hold) : eqHs L L = true := eqHs_iff.2 rfl
set_option maxHeartbeats 4000000 in
set_option maxRecDepth 100000 in
theorem fsame_eq (P P' : Nat → Prop) (vs vh vm us uh um : Value) (R : Reg) (w : World) (h : RgIn P w vs vh vm R) (h' : RgIn P' w us uh um R) (hS : R.secs.length ≤ 1000000) (hH : R.hs.length ≤ 1000000) (hM : R.ms.length ≤ 1000000) :
    Calls Try.prog 14 #[.agg #[vs, vh, vm], .agg #[us, uh, um]] w fun e w' => e = .returned (.bool true) ∧ Below w.heap.size w w' := by
  obtain ⟨a0, n0, c0, rfl, hn0, -, -⟩ := h.S.shape
  obtain ⟨a1, n1, c1, rfl, hn1, -, -⟩ := h.H.shape
  obtain ⟨a2, n2, c2, rfl, hn2, -, -⟩ := h.M.shape
  obtain ⟨b0, m0, d0, rfl, hm0, -, -⟩ := h'.S.shape
  obtain ⟨b1, m1, d1, rfl, hm1, -, -⟩ := h'.H.shape
  obtain ⟨b2, m2, d2, rfl, hm2, -, -⟩ := h'.M.shape
  obtain rfl : n0 = m0 := by omega
  obtain rfl : n1 = m1 := by omega
  obtain rfl : n2 = m2 := by omega
  have l0 : n0 ≤ 1000000 := by omega
  have l2 : n2 ≤ 1000000 := by omega
  have H := Lib.hid h
  have H' := Lib.hid h'
  clear h h' hn0 hn1 hn2 hm0 hm1 hm2 hS hM
  go_enter Try.func14, Try.ntmps14
  go_wp2_with fail
  refine (fhold_any P P' _ _ R.hs R.hs _ (H.out.H.below (bal (bal brefl _) _)) (H'.out.H.below (bal (bal brefl _) _)) hH).mono ?_
  rw [eqHs_self]
  rintro e w1 ⟨rfl, nq, rfl⟩
  go_wp2
  obtain ⟨W, hW⟩ : ∃ W, W = ((w.alloc (.cells #[.slice a0 n0 c0, .slice a1 n1 c1, .slice a2 n2 c2] 29)).alloc (.cells #[.slice b0 n0 d0, .slice b1 n1 d1, .slice b2 n2 d2] 29)).drewN nq := ⟨_, rfl⟩
  have hb : Below w.heap.size w W := by rw [hW]; exact below_drewZ (bal (bal brefl _) _) nq
  have zW : W.heap.size = w.heap.size + 2 := by rw [hW]; simp
  have k0 : W.cell? ⟨w.heap.size, 0, none⟩ = some (.slice a0 n0 c0) := by rw [hW]; exact keepA ((World.cell?_alloc_at _ _ _ _ rfl).trans rfl)
  have k2 : W.cell? ⟨w.heap.size, 2, none⟩ = some (.slice a2 n2 c2) := by rw [hW]; exact keepA ((World.cell?_alloc_at _ _ _ _ rfl).trans rfl)
  have j0 : W.cell? ⟨w.heap.size + 1, 0, none⟩ = some (.slice b0 n0 d0) := by rw [hW]; exact (World.cell?_alloc_at _ _ _ _ (by simp)).trans rfl
  have j2 : W.cell? ⟨w.heap.size + 1, 2, none⟩ = some (.slice b2 n2 d2) := by rw [hW]; exact (World.cell?_alloc_at _ _ _ _ (by simp)).trans rfl
  have HW := Lib.hid hW
  have HB := Lib.hid hb
  have HS := Lib.hid (H.out.below hb)
  have HS' := Lib.hid (H'.out.below hb)
  clear hW hb
  go_loopw [34] (fun iv wr => ∃ (k nq : Nat), k ≤ n0 ∧ iv = .int .i64 k ∧ wr = W.drewN nq) (fun iv _ => n0 - (intOf iv).toNat)
  case atStart => exact ⟨0, 0, by omega, rfl, by rw [HW.out]; rfl⟩
  case round =>
    obtain ⟨k, nq2, hk, rfl, rfl⟩ := hrel
    by_cases hlt : k < n0
    · obtain ⟨b, off, vid, vun, vis, vma, vra, vev, vix, rfl, -, -, hL, e0, e1, e2, e3, e4, e5, e6⟩ := HS.out.S.sec hlt
      obtain ⟨b', off', vid', vun', vis', vma', vra', vev', vix', rfl, -, -, hL', f0, f1, f2, f3, f4, f5, f6⟩ := HS'.out.S.sec hlt
      rw [hL] at hL'
      cases hL'
      clear hL
      have hkn : (k : Int) < n0 := by omega
      go_wp2
      go_quiet (fail)
      go_wp2
      go_roundw
      case rel => exact ⟨k + 1, _, by omega, by go_num, rfl⟩
      case measure => simp [intOf]; omega
    · go_wp2
      go_loopw [52] (fun iv wr => ∃ (k nq : Nat), k ≤ n2 ∧ iv = .int .i64 k ∧ wr = W.drewN nq) (fun iv _ => n2 - (intOf iv).toNat)
      case atStart => exact ⟨0, nq2, by omega, rfl, rfl⟩
      case round =>
        obtain ⟨j, nq3, hj, rfl, rfl⟩ := hrel
        by_cases hlt2 : j < n2
        · obtain ⟨b, off, x0, x1, x2, x3, x4, x5, x6, rfl, -, -, hL, e0, e1, e2, e3, e4, e5, e6⟩ := HS.out.M.mv hlt2
          obtain ⟨b', off', y0, y1, y2, y3, y4, y5, y6, rfl, -, -, hL', f0, f1, f2, f3, f4, f5, f6⟩ := HS'.out.M.mv hlt2
          rw [hL] at hL'
          cases hL'
          clear hL
          have hkn : (j : Int) < n2 := by omega
          go_wp2
          go_quiet (fail)
          go_wp2
          go_roundw
          case rel => exact ⟨j + 1, _, by omega, by go_num, rfl⟩
          case measure => simp [intOf]; omega
        · go_wp2
          go_ret
          exact ⟨rfl, below_drewZ HB.out _⟩
end Go.Proofs.Ytjfngogfiafipaa
