/- RegisterExact: what its rounds share. Printed by wip/gen/l33ex.py. -/
import Derived.Test.YtpoidaenkjjdfaaZRxB
import Derived.Test.YtpoidaenkjjdfaaZSrcBent
import Derived.Test.YtpoidaenkjjdfaaZSrcOdd
import Derived.Test.YtpoidaenkjjdfaaZRegP
import Derived.Test.YtpoidaenkjjdfaaZSplit
namespace Go.Proofs.Ytpoidaenkjjdfaa
open Go.RowKit
set_option linter.unusedVariables false
set_option linter.unusedSimpArgs false
/-- a register that the law looks at -/
def smR (R : Reg) : Bool := decide (R.secs.length ≤ 25 ∧ R.hs.length ≤ 20 ∧ R.ms.length ≤ 15)
theorem small33_any (P : Nat → Prop) (vs vh vm : Value) (R : Reg) (w : World) (hr : RgIn P w vs vh vm R) :
    Calls Try.prog 7 #[.agg #[vs, vh, vm]] w fun e w' => e = .returned (.bool (smR R)) ∧ Below w.heap.size w w' := by
  obtain ⟨a0, n0, c0, rfl, e0, -, h0⟩ := hr.S.shape
  obtain ⟨a1, n1, c1, rfl, e1, -, h1⟩ := hr.H.shape
  obtain ⟨a2, n2, c2, rfl, e2, -, h2⟩ := hr.M.shape
  obtain ⟨b, hb⟩ : ∃ b, smR R = b := ⟨_, rfl⟩
  have hb' := hb
  unfold smR at hb'
  rw [e0, e1, e2] at hb'
  rw [hb]
  have HB := Lib.hid hb'
  clear hb hb' e0 e1 e2 hr
  by_cases q0 : n0 ≤ 25
  · by_cases q1 : n1 ≤ 20
    · by_cases q2 : n2 ≤ 15
      · obtain rfl : b = true := by rw [← HB.out]; simp; omega
        have d0 : decide ((n0 : Int) ≤ 25) = true := by simp; omega
        have d1 : decide ((n1 : Int) ≤ 20) = true := by simp; omega
        have d2 : decide ((n2 : Int) ≤ 15) = true := by simp; omega
        go_enter Try.func7, Try.ntmps7
        go_wp2
        go_ret
        exact ⟨rfl, bal brefl _⟩
      · obtain rfl : b = false := by rw [← HB.out]; simp; omega
        have d0 : decide ((n0 : Int) ≤ 25) = true := by simp; omega
        have d1 : decide ((n1 : Int) ≤ 20) = true := by simp; omega
        have d2 : decide ((n2 : Int) ≤ 15) = false := by simp; omega
        go_enter Try.func7, Try.ntmps7
        go_wp2
        go_ret
        exact ⟨rfl, bal brefl _⟩
    · obtain rfl : b = false := by rw [← HB.out]; simp; omega
      have d0 : decide ((n0 : Int) ≤ 25) = true := by simp; omega
      have d1 : decide ((n1 : Int) ≤ 20) = false := by simp; omega
      go_enter Try.func7, Try.ntmps7
      go_wp2
      go_ret
      exact ⟨rfl, bal brefl _⟩
  · obtain rfl : b = false := by rw [← HB.out]; simp; omega
    have d0 : decide ((n0 : Int) ≤ 25) = false := by simp; omega
    go_enter Try.func7, Try.ntmps7
    go_wp2
    go_ret
    exact ⟨rfl, bal brefl _⟩
theorem fhold_eq (P P' : Nat → Prop) (v v' : Value) (L : List Hold) (w : World) (h : Sl 3 encHold P w v L) (h' : Sl 3 encHold P' w v' L) (hl : L.length ≤ 1000000) :
    Calls Try.prog 38 #[v, v'] w fun e w' => e = .returned (.bool true) ∧ Below w.heap.size w w' := by
  have h2 := fhold_any P P' v v' L L w h h' hl
  rw [eqHs_self] at h2
  refine h2.mono ?_
  rintro e w' ⟨he, nq, rfl⟩
  exact ⟨he, below_drewZ (Below.refl _ _) nq⟩
/-- what stands behind the draws: the boxes of the arguments, the source's register -/
structure RxS (sb A B C : Nat) (w wx : World) (S : Sec) (vs vh vm a0 a1 a2 : Value) (R : Reg) : Prop where
  b0 : wx.heap[A]? = some (.cells #[vs, vh, vm] 27 (0, 0))
  b1 : wx.heap[A + 1]? = some (.cells (encSec S).toArray 29 (0, 0))
  b2 : wx.heap[B]? = some (.cells #[a0, a1, a2] 27 (0, 0))
  rg : RgIn (fun b => b ≠ sb ∧ b ≠ C) wx a0 a1 a2 R
  so : SrcOk wx sb
  bl : Below w.heap.size w wx
  lA : A + 1 < sb
  lB : sb < B
  lC : B < C
  lw : w.heap.size ≤ A
section
variable {sb A B C : Nat} {w wx wy : World} {S : Sec} {vs vh vm a0 a1 a2 : Value} {R : Reg}
theorem RxS.grown (h : RxS sb A B C w wx S vs vh vm a0 a1 a2 R) (hG : wx.grownBy wy (some sb)) (hS : SrcOk wy sb) : RxS sb A B C w wy S vs vh vm a0 a1 a2 R := by
  obtain ⟨h1, h2, h3, h4, h5, h6, l1, l2, l3, l4⟩ := h
  exact ⟨heap_gr hG (by omega) h1, heap_gr hG (by omega) h2, heap_gr hG (by omega) h3, h4.grown hG (fun b hb => hb.1), hS, h6.trans (below_of_grown hG (by omega) h6.size), l1, l2, l3, l4⟩
theorem RxS.set (h : RxS sb A B C w wx S vs vh vm a0 a1 a2 R) (i : Nat) (v : Value) : RxS sb A B C w (wx.setCell ⟨C, i, none⟩ v) S vs vh vm a0 a1 a2 R := by
  obtain ⟨h1, h2, h3, h4, h5, h6, l1, l2, l3, l4⟩ := h
  have hB : Below C wx (wx.setCell ⟨C, i, none⟩ v) := (Below.refl _ _).setCell (p := ⟨C, i, none⟩) (Nat.le_refl _) _
  exact ⟨(hB.block _ (by omega)).trans h1, (hB.block _ (by omega)).trans h2, (hB.block _ (by omega)).trans h3, h4.grown (grownBy_setCell wx C i v) (fun b hb => hb.2), srcOk_below h5 hB (by omega), h6.trans (hB.mono (by omega)), l1, l2, l3, l4⟩
end
end Go.Proofs.Ytpoidaenkjjdfaa
