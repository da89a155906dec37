/- treasuryref39's Services at equal lists. -/
import Derived.Test.YtpoidaenkjjdfaaZSvc
import Derived.Test.YtpoidaenkjjdfaaZRgR
import Derived.BigQuiet
namespace Go.Proofs.Ytpoidaenkjjdfaa
open Go.RowKit
set_option linter.unusedVariables false
set_option linter.unusedSimpArgs false
set_option maxHeartbeats 1000000 in
theorem services_eq (P P' : Nat → Prop) (v v' : Value) (L : List Svc) (w : World) (h : Sl 4 encSvc P w v L) (h' : Sl 4 encSvc P' w v' L) (hl : L.length ≤ 1000000) :
    Calls Try.prog 58 #[v, v'] w fun e w' => e = .returned (.bool true) ∧ Below w.heap.size w w' := by
  obtain ⟨ao, n, c, rfl, hn, hnc, hcm⟩ := h.shape
  obtain ⟨ao', n', c', rfl, hn', hnc', hcm'⟩ := h'.shape
  obtain rfl : n = n' := by omega
  have hn1 : n ≤ 1000000 := by omega
  have H := Lib.hid h
  have H' := Lib.hid h'
  clear h h' hn hn' hl
  go_enter Try.func58, Try.ntmps58
  go_wp2
  go_loopw [13] (fun iv wr => ∃ k : Nat, k ≤ n ∧ iv = .int .i64 k ∧ Below w.heap.size w wr) (fun iv _ => n - (intOf iv).toNat)
  case atStart => exact ⟨0, by omega, rfl, Below.refl _ _⟩
  case round =>
    obtain ⟨k, hk, rfl, hbr⟩ := hrel
    by_cases hlt : k < n
    · obtain ⟨b, off, y, i, p, d, rfl, -, hbl, hx, k0, k1, k2, k3⟩ := (H.out.below hbr).svc hlt
      obtain ⟨b', off', y', i', p', d', rfl, -, hbl', hx', j0, j1, j2, j3⟩ := (H'.out.below hbr).svc hlt
      rw [hx] at hx'
      cases hx'
      clear hx
      go_wp2
      go_quiet (fail)
      go_wp2
      go_roundw
      case rel => exact ⟨k + 1, by omega, by go_num, ⟨hbr.os, hbr.tape, hbr.output, hbr.size, hbr.block⟩⟩
      case measure => simp [intOf]; omega
    · go_wp2
      go_ret
      exact ⟨rfl, hbr⟩
end Go.Proofs.Ytpoidaenkjjdfaa
