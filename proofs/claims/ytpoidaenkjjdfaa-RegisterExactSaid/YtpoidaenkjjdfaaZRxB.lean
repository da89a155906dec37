/- RegisterExact: the boxes of a round: the register looked at, the numbers, the two registers compared. -/
import Derived.Test.YtpoidaenkjjdfaaZRxA
namespace Go.Proofs.Ytpoidaenkjjdfaa
open Go.RowKit
set_option linter.unusedVariables false
theorem heap_setC {w : World} {b i : Nat} {M : Array Value} {T : TypeId} (v : Value) (h : w.heap[b]? = some (.cells M T (0, 0))) : (w.setCell ⟨b, i, none⟩ v).heap[b]? = some (.cells (M.setIfInBounds i v) T (0, 0)) :=
  heap_setCell_same w b i M T v h
def box3 (w : World) (b : Nat) (v0 v1 v2 : Value) : World := ((w.setCell ⟨b, 0, none⟩ v0).setCell ⟨b, 1, none⟩ v1).setCell ⟨b, 2, none⟩ v2
theorem box3_gr (w : World) (b : Nat) (v0 v1 v2 : Value) : w.grownBy (box3 w b v0 v1 v2) (some b) :=
  grownBy_trans (grownBy_trans (grownBy_setCellZ _ _ _ _) (grownBy_setCellZ _ _ _ _)) (grownBy_setCellZ _ _ _ _)
theorem box3_same {w : World} {b : Nat} {a0 a1 a2 : Value} {T : TypeId} (h : w.heap[b]? = some (.cells #[a0, a1, a2] T (0, 0))) (v0 v1 v2 : Value) : (box3 w b v0 v1 v2).heap[b]? = some (.cells #[v0, v1, v2] T (0, 0)) :=
  heap_setC (i := 2) v2 (heap_setC (i := 1) v1 (heap_setC (i := 0) v0 h))
theorem box3_below {x w : World} {b : Nat} (h : Below x.heap.size x w) (hb : x.heap.size ≤ b) (v0 v1 v2 : Value) : Below x.heap.size x (box3 w b v0 v1 v2) := bset3 h hb v0 v1 v2
/-- the boxes of a round -/
structure RxK (B KB UB VB : Nat) (x w : World) (yb kb ub vb : Obj) : Prop where
  bl : Below x.heap.size x w
  y : w.heap[B]? = some yb
  k : w.heap[KB]? = some kb
  u : w.heap[UB]? = some ub
  v : w.heap[VB]? = some vb
section
variable {B KB UB VB : Nat} {x w w' : World} {yb kb ub vb : Obj}
theorem RxK.up (h : RxK B KB UB VB x w yb kb ub vb) (hb : Below w.heap.size w w') : RxK B KB UB VB x w' yb kb ub vb :=
  ⟨bup h.bl hb, heap_bl hb h.y, heap_bl hb h.k, heap_bl hb h.u, heap_bl hb h.v⟩
theorem RxK.lt (h : RxK B KB UB VB x w yb kb ub vb) : B < w.heap.size ∧ KB < w.heap.size ∧ UB < w.heap.size ∧ VB < w.heap.size :=
  ⟨(Array.getElem?_eq_some_iff.1 h.y).1, (Array.getElem?_eq_some_iff.1 h.k).1, (Array.getElem?_eq_some_iff.1 h.u).1, (Array.getElem?_eq_some_iff.1 h.v).1⟩
theorem RxK.setU {a0 a1 a2 : Value} {T : TypeId} (h : RxK B KB UB VB x w yb kb (.cells #[a0, a1, a2] T (0, 0)) vb) (hx : x.heap.size ≤ UB) (n1 : B ≠ UB) (n2 : KB ≠ UB) (n3 : VB ≠ UB) (v0 v1 v2 : Value) :
    RxK B KB UB VB x (box3 w UB v0 v1 v2) yb kb (.cells #[v0, v1, v2] T (0, 0)) vb :=
  ⟨box3_below h.bl hx _ _ _, heap_gr (box3_gr _ _ _ _ _) n1 h.y, heap_gr (box3_gr _ _ _ _ _) n2 h.k, box3_same h.u _ _ _, heap_gr (box3_gr _ _ _ _ _) n3 h.v⟩
theorem RxK.setV {a0 a1 a2 : Value} {T : TypeId} (h : RxK B KB UB VB x w yb kb ub (.cells #[a0, a1, a2] T (0, 0))) (hx : x.heap.size ≤ VB) (n1 : B ≠ VB) (n2 : KB ≠ VB) (n3 : UB ≠ VB) (v0 v1 v2 : Value) :
    RxK B KB UB VB x (box3 w VB v0 v1 v2) yb kb ub (.cells #[v0, v1, v2] T (0, 0)) :=
  ⟨box3_below h.bl hx _ _ _, heap_gr (box3_gr _ _ _ _ _) n1 h.y, heap_gr (box3_gr _ _ _ _ _) n2 h.k, heap_gr (box3_gr _ _ _ _ _) n3 h.u, box3_same h.v _ _ _⟩
end
theorem RgIn.set3' {P : Nat → Prop} {w : World} {vs vh vm : Value} {R : Reg} {b : Nat} (h : RgIn P w vs vh vm R) (hp : ∀ k, P k → k ≠ b) (v0 v1 v2 : Value) : RgIn P (box3 w b v0 v1 v2) vs vh vm R := h.grown (box3_gr _ _ _ _ _) hp
end Go.Proofs.Ytpoidaenkjjdfaa
