/- the reference's register: Add. Printed by wip/gen/refl.py. -/
import Derived.Test.YthjaofgdickkaaaGreatRefK
namespace Go.Proofs.YthjaofgdickkaaaGreat
open Go.RowKit
set_option linter.unusedVariables false
set_option linter.unusedSimpArgs false
/-- the register that Add hands back -/
theorem fadd_fin {P : Nat → Prop} {R : Reg} {L : List Sec} {w w5 W7 : World} {a1 a2 s7 : Option Addr} {n1 c1 n2 c2 t7 n7 : Nat} (hP : ∀ b, w.heap.size ≤ b → P b) (hn : n7 = L.length)
    (h5 : Below w.heap.size w w5) (z5 : w.heap.size + 3 ≤ w5.heap.size) (h7 : Below w5.heap.size w5 W7)
    (hH : Sl 3 encHold (fun b => P b ∧ b < w.heap.size) w (.slice a1 n1 c1) R.hs) (hM : Sl 7 encMv (fun b => P b ∧ b < w.heap.size) w (.slice a2 n2 c2) R.ms)
    (o7 : W7.ownsRow w5.heap.size 26 7 (.slice s7 n7 t7) n7 (flatE encSec L)) :
    GaveR P ⟨L, R.hs, R.ms⟩ 0 w (.returned (.tuple #[.agg #[.slice s7 n7 t7, .slice a1 n1 c1, .slice a2 n2 c2], .int .i64 0]))
      ((((W7.setCell ⟨w.heap.size, 0, none⟩ (.slice s7 n7 t7)).setCell ⟨w.heap.size + 1 + 1, 0, none⟩ (.slice s7 n7 t7)).setCell ⟨w.heap.size + 1 + 1, 1, none⟩ (.slice a1 n1 c1)).setCell ⟨w.heap.size + 1 + 1, 2, none⟩ (.slice a2 n2 c2)) := by
  have b7 : Below w.heap.size w W7 := bup h5 h7
  have z7 := b7.size
  have g1 := grownBy_setCellZ W7 w.heap.size 0 (.slice s7 n7 t7)
  have g2 := grownBy_set3 (W7.setCell ⟨w.heap.size, 0, none⟩ (.slice s7 n7 t7)) (w.heap.size + 1 + 1) (.slice s7 n7 t7) (.slice a1 n1 c1) (.slice a2 n2 c2)
  have r7 := own_kept (own_kept o7 g1 (by omega)) g2 (by omega)
  have rH := ((hH.below b7).grown g1 (fun b hb => by omega)).grown g2 (fun b hb => by omega)
  have rM := ((hM.below b7).grown g1 (fun b hb => by omega)).grown g2 (fun b hb => by omega)
  exact ⟨_, _, _, rfl, ⟨Sl.own encSec_len r7 hn.symm (fun b hb => hP b (by omega)), rH.mono (fun b hb _ => hb.1), rM.mono (fun b hb _ => hb.1)⟩, bset3 (bset b7 (Nat.le_refl _) _) (by omega) _ _ _⟩
/-- append(append(append(nil, s..), x), t..), in whichever order its memory is made -/
theorem run_three {P : Program} {α : Type} {z : Nat} {enc : α → List Value} (hlen : ∀ a, (enc a).length = z) (hone : ∀ a, ∀ u ∈ enc a, u.oneCell' = true) {Q : Nat → Prop} (w : World) {ao bo : Option Addr} {n c m d : Nat} {L M : List α} (hS : Sl z enc Q w (.slice ao n c) L) (hS2 : Sl z enc Q w (.slice bo m d) M) (x : α)
    (t ty e : TypeId) (i : TypeInfo) (zv : Value) (bytes : Nat) (ht : P.underlying t = some (.slice e)) (hi : P.info? e = some i) (hz : i.zero = some zv) (hsize : i.size = z) (hby : i.bytes = bytes) (hzs : zv.cells.size = z) (hsz : 0 < z) (hn : n + m ≤ 10000) (hbb : bytes ≤ 1000) (cs : Array Value) (hcs : cs = (enc x).toArray) :
    (∃ a1 c1 W1 a2 c2 W2 a3 c3 W3, (Builtin.append_ #[t, t] ty #[.slice none 0 0, .slice ao n c]).run P w = .ok (.slice a1 n c1) W1 ∧ (Builtin.append_ #[t, t] ty #[.slice a1 n c1, .slice (some ⟨W1.heap.size, 0, none⟩) 1 1]).run P (W1.alloc (.cells cs e (0, 0))) = .ok (.slice a2 (n + 1) c2) W2 ∧ (Builtin.append_ #[t, t] ty #[.slice a2 (n + 1) c2, .slice bo m d]).run P W2 = .ok (.slice a3 (n + 1 + m) c3) W3 ∧ W3.ownsRow w.heap.size e z (.slice a3 (n + 1 + m) c3) (n + 1 + m) (flatE enc (L ++ x :: M)) ∧ Below w.heap.size w W3 ∧ Below w.heap.size w W2 ∧ Below w.heap.size w W1) ∧
    (∃ a1 c1 W1 a2 c2 W2 a3 c3 W3, (Builtin.append_ #[t, t] ty #[.slice none 0 0, .slice ao n c]).run P (w.alloc (.cells cs e (0, 0))) = .ok (.slice a1 n c1) W1 ∧ (Builtin.append_ #[t, t] ty #[.slice a1 n c1, .slice (some ⟨w.heap.size, 0, none⟩) 1 1]).run P W1 = .ok (.slice a2 (n + 1) c2) W2 ∧ (Builtin.append_ #[t, t] ty #[.slice a2 (n + 1) c2, .slice bo m d]).run P W2 = .ok (.slice a3 (n + 1 + m) c3) W3 ∧ W3.ownsRow w.heap.size e z (.slice a3 (n + 1 + m) c3) (n + 1 + m) (flatE enc (L ++ x :: M)) ∧ Below w.heap.size w W3 ∧ Below w.heap.size w W2 ∧ Below w.heap.size w W1) := by
  have hflat : flatE enc (L ++ x :: M) = flatE enc (L ++ [x]) ++ flatE enc M := by simp [flatE]
  rw [hflat]
  obtain ⟨⟨a1, c1, W1, a2, c2, W2, h1, h2, o2, b2, b1⟩, ⟨a1', c1', W1', a2', c2', W2', h1', h2', o2', b2', b1'⟩⟩ := run_clone_one (P := P) hlen hone w hS x t ty ty e i zv bytes ht hi hz hsize hby hzs hsz (by omega) hbb cs hcs
  refine ⟨?_, ?_⟩
  · obtain ⟨a3, c3, W3, h3, o3, g3⟩ := run_more (P := P) hlen hone W2 w.heap.size e o2 (hS2.below b2) t ty i zv bytes ht hi hz hsize hby hzs hsz (by omega) hbb b2.size
    exact ⟨a1, c1, W1, a2, c2, W2, a3, c3, W3, h1, h2, h3, o3, b2.grown g3 b2.size (fun k hk => (o2.lt k hk).1), b2, b1⟩
  · obtain ⟨a3, c3, W3, h3, o3, g3⟩ := run_more (P := P) hlen hone W2' w.heap.size e o2' (hS2.below b2') t ty i zv bytes ht hi hz hsize hby hzs hsz (by omega) hbb b2'.size
    exact ⟨a1', c1', W1', a2', c2', W2', a3, c3, W3, h1', h2', h3, o3, b2'.grown g3 b2'.size (fun k hk => (o2'.lt k hk).1), b2', b1'⟩
end Go.Proofs.YthjaofgdickkaaaGreat
