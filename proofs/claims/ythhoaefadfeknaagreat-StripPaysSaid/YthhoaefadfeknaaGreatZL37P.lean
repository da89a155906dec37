/- StripMoves: the plain part, over all draws. -/
import Derived.Test.YthhoaefadfeknaaGreatZL37B
namespace Go.Proofs.YthhoaefadfeknaaGreat
open Go.RowKit
set_option linter.unusedVariables false
def mR : Reg := spR zR [] 5 1 1 500
def mL : List Stp := spL zR [] 5 1 1 500
theorem mv_e : spE zR [] 5 1 1 500 = 0 := by kernel_rfl
theorem mv_l : mL = [⟨1, 180, false, 1, 500⟩, ⟨1, 360, false, 1, 500⟩, ⟨1, 540, false, 1, 500⟩, ⟨1, 720, false, 1, 500⟩, ⟨1, 720, true, 1, 500⟩] := by kernel_rfl
theorem mv_c : chkE mR = 0 := by kernel_rfl
structure MovQ (s d : Int) (p : Bool) (q : Int) : Prop where
  e1 : mwE mR mL ⟨s, d, p, 1, 100 * q⟩ 2 = 0
  c1 : chkE (mwR mR mL ⟨s, d, p, 1, 100 * q⟩ 2) = 0
  l1 : decide ((mwL mR mL ⟨s, d, p, 1, 100 * q⟩ 2).length ≤ 10) = true
  j1 : jnE (mwR mR mL ⟨s, d, p, 1, 100 * q⟩ 2) (mwL mR mL ⟨s, d, p, 1, 100 * q⟩ 2) 6 1 1 500 = 77
  j2 : jnE (mwR mR mL ⟨s, d, p, 1, 100 * q⟩ 2) (mwL mR mL ⟨s, d, p, 1, 100 * q⟩ 2) 6 1 2 100 = 77
  e2 : mwE (mwR mR mL ⟨s, d, p, 1, 100 * q⟩ 2) (mwL mR mL ⟨s, d, p, 1, 100 * q⟩ 2) ⟨s, d, p, 2, 100 * q⟩ 1 = 0
  r2 : mwR (mwR mR mL ⟨s, d, p, 1, 100 * q⟩ 2) (mwL mR mL ⟨s, d, p, 1, 100 * q⟩ 2) ⟨s, d, p, 2, 100 * q⟩ 1 = mR
  l2 : mwL (mwR mR mL ⟨s, d, p, 1, 100 * q⟩ 2) (mwL mR mL ⟨s, d, p, 1, 100 * q⟩ 2) ⟨s, d, p, 2, 100 * q⟩ 1 = mL
  v1 : vhN (mwR mR mL ⟨s, d, p, 1, 100 * q⟩ 2) (mwL mR mL ⟨s, d, p, 1, 100 * q⟩ 2) ⟨s, d, p, 1, 100 * q⟩ = 500 - 100 * q
  v2 : vhN (mwR mR mL ⟨s, d, p, 1, 100 * q⟩ 2) (mwL mR mL ⟨s, d, p, 1, 100 * q⟩ 2) ⟨s, d, p, 2, 100 * q⟩ = 100 * q
set_option maxHeartbeats 4000000 in
theorem movq {k : Nat} {s d : Int} {p : Bool} {h a : Int} (hk : mL[k]? = some ⟨s, d, p, h, a⟩) {q : Int} (hq : 1 ≤ q ∧ q ≤ 5) : h = 1 ∧ MovQ s d p q := by
  rw [mv_l] at hk
  have hk5 : k < 5 := by have := (List.getElem?_eq_some_iff.1 hk).1; simpa using this
  have hkc : k = 0 ∨ k = 1 ∨ k = 2 ∨ k = 3 ∨ k = 4 := by omega
  have hqc : q = 1 ∨ q = 2 ∨ q = 3 ∨ q = 4 ∨ q = 5 := by omega
  rcases hkc with rfl | rfl | rfl | rfl | rfl
  all_goals
    simp only [List.getElem?_cons_zero, List.getElem?_cons_succ, Option.some.injEq, Stp.mk.injEq] at hk
    obtain ⟨rfl, rfl, rfl, rfl, rfl⟩ := hk
    refine ⟨rfl, ?_⟩
    rcases hqc with rfl | rfl | rfl | rfl | rfl
    all_goals exact ⟨by kernel_rfl, by kernel_rfl, by kernel_rfl, by kernel_rfl, by kernel_rfl, by kernel_rfl, by kernel_rfl, by kernel_rfl, by kernel_rfl, by kernel_rfl⟩
/-! what stays, but for the source -/
def Kp (sb B : Nat) (w w' : World) : Prop := w.heap.size ≤ w'.heap.size ∧ ∀ b, b < B → b ≠ sb → w'.heap[b]? = w.heap[b]?
section
variable {sb B : Nat} {w w' w'' : World}
theorem Kp.refl : Kp sb B w w := ⟨Nat.le_refl _, fun _ _ _ => rfl⟩
theorem Kp.trans (h : Kp sb B w w') (k : Kp sb B w' w'') : Kp sb B w w'' := ⟨Nat.le_trans h.1 k.1, fun b hb hne => (k.2 b hb hne).trans (h.2 b hb hne)⟩
theorem Kp.mono {B' : Nat} (h : Kp sb B w w') (hB : B' ≤ B) : Kp sb B' w w' := ⟨h.1, fun b hb hne => h.2 b (by omega) hne⟩
theorem Kp.below (h : Below w.heap.size w w') (hB : B ≤ w.heap.size) : Kp sb B w w' := ⟨h.size, fun b hb _ => h.block b (by omega)⟩
theorem Kp.grown (h : w.grownBy w' (some sb)) (hB : B ≤ w.heap.size) : Kp sb B w w' := ⟨h.size, fun b hb hne => h.block b (by omega) (by simpa using hne)⟩
theorem Kp.set {b o : Nat} {v : Value} (hb : B ≤ b) : Kp sb B w (w.setCell ⟨b, o, none⟩ v) := ⟨by simp [World.setCell], fun k hk _ => Below.heap_setCell _ _ _ _ (by simp only; omega)⟩
theorem VkIn.kp {vs vh vm vt : Value} {R : Reg} {L : List Stp} (h : VkIn (fun b => b < B ∧ b ≠ sb) w vs vh vm vt R L) (k : Kp sb B w w') : VkIn (fun b => b < B ∧ b ≠ sb) w' vs vh vm vt R L :=
  ⟨⟨h.rg.S.block k.1 fun b hb _ => k.2 b hb.1 hb.2, h.rg.H.block k.1 fun b hb _ => k.2 b hb.1 hb.2, h.rg.M.block k.1 fun b hb _ => k.2 b hb.1 hb.2⟩, h.st.block k.1 fun b hb _ => k.2 b hb.1 hb.2, h.lS, h.lH, h.lM, h.lL⟩
theorem Kp.cell (k : Kp sb B w w') {b o : Nat} {v : Value} (hb : b < B) (hne : b ≠ sb) (h : w.cell? ⟨b, o, none⟩ = some v) : w'.cell? ⟨b, o, none⟩ = some v := (World.cell?_of_block (a := ⟨b, o, none⟩) (k.2 b hb hne)).trans h
end
end Go.Proofs.YthhoaefadfeknaaGreat
