/- register: Copy, move. -/
import Derived.Test.YthjaofgdickkaaaGreatRegJ
import Derived.Test.YthjaofgdickkaaaGreatClone
namespace Go.Proofs.YthjaofgdickkaaaGreat
open Go.RowKit
set_option linter.unusedVariables false
set_option linter.unusedSimpArgs false

theorem keepF {w w1 : World} (hb : Below w.heap.size w w1) {b o o' : Nat} {v : Value} (hc : w.cell? ⟨b, o', none⟩ = some v) {f : Bool} (h : w.frozen? ⟨b, o, none⟩ = f) : w1.frozen? ⟨b, o, none⟩ = f := (hb.frozen (p := ⟨b, o, none⟩) (by exact World.block_lt_of_cell? w ⟨b, o', none⟩ hc)).trans h
theorem own_kept {w w' : World} {base b : Nat} {T : TypeId} {z : Nat} {v : Value} {n : Nat} {xs : List Value} (h : w.ownsRow base T z v n xs) (hg : w.grownBy w' (some b)) (hb : b < base) : w'.ownsRow base T z v n xs := by
  refine h.kept hg ?_
  cases hv : v.ownBlock with
  | none => exact .inl rfl
  | some k => exact .inr (by have := (h.lt k hv).1; simp; omega)
theorem grownBy_set3 (w : World) (b : Nat) (v0 v1 v2 : Value) : w.grownBy (((w.setCell ⟨b, 0, none⟩ v0).setCell ⟨b, 1, none⟩ v1).setCell ⟨b, 2, none⟩ v2) (some b) := grownBy_transZ (grownBy_transZ (grownBy_setCellZ ..) (grownBy_setCellZ ..)) (grownBy_setCellZ ..)
/-- a register of rows of its own, base ahead -/
structure RgOwn (base : Nat) (w : World) (vs vh vm : Value) (R : Reg) : Prop where
  S : w.ownsRow base 26 7 vs R.secs.length (flatE encSec R.secs)
  H : w.ownsRow base 171 3 vh R.hs.length (flatE encHold R.hs)
  M : w.ownsRow base 174 7 vm R.ms.length (flatE encMv R.ms)
/-- a copy of a register -/
def CopiedR (R : Reg) (w : World) (e : Ending) (w' : World) : Prop :=
  ∃ vs vh vm, e = .returned (.agg #[vs, vh, vm]) ∧ RgOwn w.heap.size w' vs vh vm R ∧ Below w.heap.size w w'
set_option maxHeartbeats 2000000 in
set_option maxRecDepth 100000 in
theorem copy_any (P : Nat → Prop) (vs vh vm : Value) (R : Reg) (w : World) (hr : RgIn P w vs vh vm R) (hS : R.secs.length ≤ 1000000) (hH : R.hs.length ≤ 1000000) (hM : R.ms.length ≤ 1000000) :
    Calls Tryz.prog 161 #[.agg #[vs, vh, vm]] w (CopiedR R w) := by
  obtain ⟨a0, n0, c0, rfl, -, -, -⟩ := hr.S.shape
  obtain ⟨a1, n1, c1, rfl, -, -, -⟩ := hr.H.shape
  obtain ⟨a2, n2, c2, rfl, -, -, -⟩ := hr.M.shape
  have HR := Lib.hid hr
  clear hr
  obtain ⟨W, hW⟩ : ∃ W, W = ((w.alloc (.cells #[.slice a0 n0 c0, .slice a1 n1 c1, .slice a2 n2 c2] 31)).alloc (.cells #[.slice none 0 0, .slice none 0 0, .slice none 0 0] 31)) := ⟨_, rfl⟩
  have hbW : Below w.heap.size w W := by rw [hW]; exact bal (bal brefl _) _
  have zW : W.heap.size = w.heap.size + 1 + 1 := by rw [hW]; simp
  have r0 : W.cell? ⟨w.heap.size, 0, none⟩ = some (.slice a0 n0 c0) := by rw [hW]; exact keepA ((World.cell?_alloc_at _ _ _ _ rfl).trans rfl)
  have r1 : W.cell? ⟨w.heap.size, 1, none⟩ = some (.slice a1 n1 c1) := by rw [hW]; exact keepA ((World.cell?_alloc_at _ _ _ _ rfl).trans rfl)
  have r2 : W.cell? ⟨w.heap.size, 2, none⟩ = some (.slice a2 n2 c2) := by rw [hW]; exact keepA ((World.cell?_alloc_at _ _ _ _ rfl).trans rfl)
  have q0 : W.cell? ⟨w.heap.size + 1, 0, none⟩ = some (.slice none 0 0) := by rw [hW]; exact (World.cell?_alloc_at _ _ _ _ (by simp)).trans rfl
  have q1 : W.cell? ⟨w.heap.size + 1, 1, none⟩ = some (.slice none 0 0) := by rw [hW]; exact (World.cell?_alloc_at _ _ _ _ (by simp)).trans rfl
  have q2 : W.cell? ⟨w.heap.size + 1, 2, none⟩ = some (.slice none 0 0) := by rw [hW]; exact (World.cell?_alloc_at _ _ _ _ (by simp)).trans rfl
  have f0 : ∀ o, W.frozen? ⟨w.heap.size + 1, o, none⟩ = false := fun o => by rw [hW]; exact World.frozen?_alloc_at _ _ _ _ (by simp)
  have HBW := Lib.hid hbW
  have HRW := Lib.hid (HR.out.below hbW)
  have F0 := Lib.hid f0
  clear hbW f0
  go_enter Tryz.func161, Tryz.ntmps161
  go_wp2
  rw [← hW]
  clear hW
  go_region_held3 (fun w' => w'.cell? ⟨w.heap.size, 0, none⟩ = some (.slice a0 n0 c0) ∧ w'.cell? ⟨w.heap.size, 1, none⟩ = some (.slice a1 n1 c1) ∧ w'.cell? ⟨w.heap.size, 2, none⟩ = some (.slice a2 n2 c2)) (first | exact ⟨r0, r1, r2⟩ | exact ⟨keepB hb1 r0, keepB hb1 r1, keepB hb1 r2⟩ | exact ⟨keepB hb2 (keepB hb1 r0), keepB hb2 (keepB hb1 r1), keepB hb2 (keepB hb1 r2)⟩ | exact ⟨keepB hb3 (keepB hb2 (keepB hb1 r0)), keepB hb3 (keepB hb2 (keepB hb1 r1)), keepB hb3 (keepB hb2 (keepB hb1 r2))⟩ | go_keep) (first
    | (go_at_call 250; refine (cloneSec_any P _ R.secs _ (HRW.out.S.drewN 1) hS).mono ?_; rintro e w1 ⟨v1, rfl, ho1, hb1'⟩; have hb1 : Below W.heap.size W w1 := ⟨hb1'.os, hb1'.tape, hb1'.output, hb1'.size, hb1'.block⟩; clear hb1')
    | (go_at_call 251; refine (cloneHold_any P _ R.hs _ (HRW.out.H.below hb1) hH).mono ?_; rintro e w2 ⟨v2, rfl, ho2, hb2⟩)
    | (go_at_call 252; refine (cloneMv_any P _ R.ms _ ((HRW.out.M.below hb1).below hb2) hM).mono ?_; rintro e w3 ⟨v3, rfl, ho3, hb3⟩; obtain ⟨s1, t1, rfl⟩ := own_slice0 ho1; obtain ⟨s2, t2, rfl⟩ := own_slice0 ho2; obtain ⟨s3, t3, rfl⟩ := own_slice0 ho3; have x0 := keepB hb3 (keepB hb2 (keepB hb1 q0)); have x1 := keepB hb3 (keepB hb2 (keepB hb1 q1)); have x2 := keepB hb3 (keepB hb2 (keepB hb1 q2)); have y0 := keepF hb3 (keepB hb2 (keepB hb1 q0)) (keepF hb2 (keepB hb1 q0) (keepF hb1 q0 (F0.out 0))); have y1 := keepF hb3 (keepB hb2 (keepB hb1 q0)) (keepF hb2 (keepB hb1 q0) (keepF hb1 q0 (F0.out 1))); have y2 := keepF hb3 (keepB hb2 (keepB hb1 q0)) (keepF hb2 (keepB hb1 q0) (keepF hb1 q0 (F0.out 2)))))
  go_wp2
  refine bodyPost_ret (v := .agg #[.slice s1 R.secs.length t1, .slice s2 R.hs.length t2, .slice s3 R.ms.length t3]) (by simp [results, Tryz.results161, go_sem, x0, x1, x2]) rfl ?_
  have z1 := hb1.size
  have z2 := hb2.size
  have z3 := hb3.size
  have y1 := grownBy_set3 w3 (w.heap.size + 1) (.slice s1 R.secs.length t1) (.slice s2 R.hs.length t2) (.slice s3 R.ms.length t3)
  have o1 := own_kept (ownsRow_baseZ (ownsRow_belowZ (ownsRow_belowZ ho1 hb2) hb3) (show w.heap.size + 1 + 1 ≤ _ by exact Nat.le_of_eq zW.symm)) y1 (by omega)
  have o2 := own_kept (ownsRow_baseZ (ownsRow_belowZ ho2 hb3) (show w.heap.size + 1 + 1 ≤ _ by omega)) y1 (by omega)
  have o3 := own_kept (ownsRow_baseZ ho3 (show w.heap.size + 1 + 1 ≤ _ by omega)) y1 (by omega)
  exact ⟨_, _, _, rfl, ⟨ownsRow_baseZ o1 (by omega), ownsRow_baseZ o2 (by omega), ownsRow_baseZ o3 (by omega)⟩, bset3 (bup (bup (bup HBW.out hb1) hb2) hb3) (by omega) _ _ _⟩
end Go.Proofs.YthjaofgdickkaaaGreat
