/- The reference's Plans at equal plans. -/
import Derived.Test.YtmobjmgiilbbdaaPlan
import Derived.BigQuiet
namespace Go.Proofs.Ytmobjmgiilbbdaa
open Go.RowKit
set_option linter.unusedVariables false

set_option maxHeartbeats 1000000 in
theorem plans_same (ao ao' : Option Addr) (n c c' : Nat) (d r p : Nat → Int) (w : World) (hn : n ≤ 1000000) (h : PlanAt w ao n c d r p) (h' : PlanAt w ao' n c' d r p) :
    Calls Try.prog 16 #[.slice ao n c, .slice ao' n c'] w fun e w' => e = .returned (.bool true) ∧ Below w.heap.size w w' := by
  have H := Lib.hid h
  have H' := Lib.hid h'
  clear h h'
  go_enter Try.func16, Try.ntmps16
  go_wp2
  go_loopw [13] (fun iv wr => ∃ k : Nat, k ≤ n ∧ iv = .int .i64 k ∧ Below w.heap.size w wr) (fun iv _ => n - (intOf iv).toNat)
  case atStart => exact ⟨0, by omega, rfl, Below.refl _ _⟩
  case round =>
    obtain ⟨k, hk, rfl, hbr⟩ := hrel
    by_cases hlt : k < n
    · obtain ⟨b, off, rfl, hc⟩ := (H.out.below hbr).at_ (by omega)
      obtain ⟨b', off', rfl, hc'⟩ := (H'.out.below hbr).at_ (by omega)
      have hck := hc k hlt
      have hck' := hc' k hlt
      obtain ⟨vd, hvd⟩ : ∃ x, d k = x := ⟨_, rfl⟩
      obtain ⟨vr, hvr⟩ : ∃ x, r k = x := ⟨_, rfl⟩
      obtain ⟨vp, hvp⟩ : ∃ x, p k = x := ⟨_, rfl⟩
      rw [hvd, hvr, hvp] at hck hck'
      obtain ⟨k0, k1, k2⟩ := hck
      obtain ⟨j0, j1, j2⟩ := hck'
      clear hc hc' hvd hvr hvp
      go_wp2
      go_quiet (fail)
      go_wp2
      go_roundw
      case rel => exact ⟨k + 1, by omega, by go_num, ⟨hbr.os, hbr.tape, hbr.output, hbr.size, hbr.block⟩⟩
      case measure => simp [intOf]; omega
    · go_wp2
      go_ret
      exact ⟨rfl, hbr⟩
end Go.Proofs.Ytmobjmgiilbbdaa
