/- register: Add, the way that ends well. -/
import Derived.Test.YthjaofgdickkaaaGreatRegQ
import Derived.Test.YthjaofgdickkaaaGreatInsS
namespace Go.Proofs.YthjaofgdickkaaaGreat
open Go.RowKit
set_option linter.unusedVariables false
set_option linter.unusedSimpArgs false
/-- the register that Add hands back -/
theorem radd_fin {P : Nat → Prop} {R : Reg} {L : List Sec} {w W5 W6 W7 : World} {B : Nat} {s0 s1 s2 s3 : Option Addr} {t0 t1 t2 t3 : Nat} {o : Obj} (hP : ∀ b, w.heap.size ≤ b → P b)
    (h5 : Below w.heap.size w W5) (h6 : W6 = W5.alloc o) (h7 : W6.grownBy W7 (Value.slice s0 R.secs.length t0).ownBlock) (hB : w.heap.size + 3 ≤ B)
    (o0 : W5.ownsRow B 26 7 (.slice s0 R.secs.length t0) R.secs.length (flatE encSec R.secs))
    (o2 : W5.ownsRow B 171 3 (.slice s2 R.hs.length t2) R.hs.length (flatE encHold R.hs))
    (o3 : W5.ownsRow B 174 7 (.slice s3 R.ms.length t3) R.ms.length (flatE encMv R.ms))
    (o7 : W7.ownsRow B 26 7 (.slice s1 (R.secs.length + 1) t1) (R.secs.length + 1) (flatE encSec L)) (hL : L.length = R.secs.length + 1) :
    GaveR P ⟨L, R.hs, R.ms⟩ 0 w (.returned (.tuple #[.agg #[.slice s1 (R.secs.length + 1) t1, .slice s2 R.hs.length t2, .slice s3 R.ms.length t3], .int .i64 0]))
      ((((W7.setCell ⟨w.heap.size, 0, none⟩ (.slice s1 (R.secs.length + 1) t1)).setCell ⟨w.heap.size + 1 + 1, 0, none⟩ (.slice s1 (R.secs.length + 1) t1)).setCell ⟨w.heap.size + 1 + 1, 1, none⟩ (.slice s2 R.hs.length t2)).setCell ⟨w.heap.size + 1 + 1, 2, none⟩ (.slice s3 R.ms.length t3)) := by
  have q0 : W6.ownsRow B 26 7 (.slice s0 R.secs.length t0) R.secs.length (flatE encSec R.secs) := by rw [h6]; exact o0.alloc _
  have q2 : W6.ownsRow B 171 3 (.slice s2 R.hs.length t2) R.hs.length (flatE encHold R.hs) := by rw [h6]; exact o2.alloc _
  have q3 : W6.ownsRow B 174 7 (.slice s3 R.ms.length t3) R.ms.length (flatE encMv R.ms) := by rw [h6]; exact o3.alloc _
  have p2 := q2.kept h7 (own_apart q2 q0 (by decide))
  have p3 := q3.kept h7 (own_apart q3 q0 (by decide))
  have g1 : W7.grownBy (W7.setCell ⟨w.heap.size, 0, none⟩ (.slice s1 (R.secs.length + 1) t1)) (some w.heap.size) := grownBy_setCellZ ..
  have g2 := grownBy_set3 (W7.setCell ⟨w.heap.size, 0, none⟩ (.slice s1 (R.secs.length + 1) t1)) (w.heap.size + 1 + 1) (.slice s1 (R.secs.length + 1) t1) (.slice s2 R.hs.length t2) (.slice s3 R.ms.length t3)
  have r2 := own_kept (own_kept p2 g1 (by omega)) g2 (by omega)
  have r3 := own_kept (own_kept p3 g1 (by omega)) g2 (by omega)
  have r7 := own_kept (own_kept o7 g1 (by omega)) g2 (by omega)
  have h66 : Below w.heap.size w W6 := by rw [h6]; exact bal h5 o
  have z5 := h5.size
  have z6 := h66.size
  have b7 : Below w.heap.size w W7 := h66.grown h7 z6 (fun k hk => by have := (q0.lt k hk).1; omega)
  exact ⟨_, _, _, rfl, ⟨Sl.own encSec_len r7 hL (fun b hb => hP b (by omega)), Sl.own encHold_len r2 rfl (fun b hb => hP b (by omega)), Sl.own encMv_len r3 rfl (fun b hb => hP b (by omega))⟩, bset3 (bset b7 (Nat.le_refl _) _) (by omega) _ _ _⟩
end Go.Proofs.YthjaofgdickkaaaGreat
