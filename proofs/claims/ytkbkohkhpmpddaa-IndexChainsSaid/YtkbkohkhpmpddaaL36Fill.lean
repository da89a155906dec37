/- The loop that fills the values of an index; what follows of an index with values from 50 to 150. -/
import Derived.Test.YtkbkohkhpmpddaaL36Base
import Derived.Deep.RegionHeld3
namespace Go.Proofs.Ytkbkohkhpmpddaa
open Go.RowKit
set_option linter.unusedVariables false

structure FInv (sb g k : Nat) (W wr : World) : Prop where
  src : SrcOk wr sb
  keep : Keep2 sb g W wr
  cells : ∀ j, j < 14 → ∃ v : Int, wr.cell? ⟨g, j, none⟩ = some (.int .i64 v) ∧ (j < k → 50 ≤ v ∧ v ≤ 150)
  frz : ∀ o, wr.frozen? ⟨g, o, none⟩ = false
theorem finv_step {sb g k : Nat} {W wr w7 : World} {v : Int} (h : FInv sb g k W wr) (hlt : sb < g) (hk : k < 14) (hG : wr.grownBy w7 (some sb)) (hS : SrcOk w7 sb) (v0 : 50 ≤ v) (v1 : v ≤ 150) : FInv sb g (k + 1) W (w7.setCell ⟨g, k, none⟩ (.int .i64 v)) := by
  obtain ⟨h1, h2, h3, h4⟩ := h
  have hb : Below g w7 (w7.setCell ⟨g, k, none⟩ (.int .i64 v)) := (Below.refl g w7).setCell (p := ⟨g, k, none⟩) (Nat.le_refl _) _
  refine ⟨srcOk_below hS hb hlt, (h2.trans (Keep2.grown hG)).trans (Keep2.set _ _ _), fun j hj => ?_, fun o => ?_⟩
  · obtain ⟨u, hu, hu2⟩ := h3 j hj
    have hu7 := hG.cell hu (by simp; omega)
    by_cases hjk : j = k
    · subst hjk
      exact ⟨v, World.cell?_setCell_same _ _ _ hu7, fun _ => ⟨v0, v1⟩⟩
    · refine ⟨u, (World.cell?_setCell_other _ _ _ _ (by intro h; injection h; omega)).trans hu7, fun h => hu2 (by omega)⟩
  · rw [World.frozen?_setCell]
    obtain ⟨u, hu, _⟩ := h3 0 (by omega)
    have hgl := World.block_lt_of_cell? wr _ hu
    exact (World.frozen?_of_block (a := ⟨g, o, none⟩) (hG.block g hgl (by simp; omega))).trans (h4 o)

/-- the number in a cell -/
def readI (w : World) (b j : Nat) : Int := match w.cell? ⟨b, j, none⟩ with
  | some (.int _ v) => v
  | _ => 0
theorem readI_eq {w : World} {b j : Nat} {v : Int} (h : w.cell? ⟨b, j, none⟩ = some (.int .i64 v)) : readI w b j = v := by
  unfold readI; rw [h]
theorem finv_end {sb g : Nat} {W wr : World} (h : FInv sb g 14 W wr) : (∀ j, j < 14 → wr.cell? ⟨g, j, none⟩ = some (.int .i64 (readI wr g j))) ∧ ∀ j, j < 14 → 50 ≤ readI wr g j ∧ readI wr g j ≤ 150 := by
  refine ⟨fun j hj => ?_, fun j hj => ?_⟩
  · obtain ⟨u, hu, hu2⟩ := h.cells j hj
    rw [readI_eq hu]; exact hu
  · obtain ⟨u, hu, hu2⟩ := h.cells j hj
    rw [readI_eq hu]; exact hu2 hj

/-- the bond of the example is valid -/
theorem ten_sec : SecOk 1 1 90 450 5000 6 := ⟨by omega, by omega, by omega, by omega, by omega, by omega, by omega, by omega, by omega, by omega, by omega⟩
section
variable {xs : Nat → Int}
theorem ten_ix (h : ∀ j, j < 14 → 50 ≤ xs j ∧ xs j ≤ 405) : ixB 0 14 xs = true := ixB_of (by omega) (by omega) (by omega) (by omega) fun j hj => by have := h j hj; omega
theorem ten_rt (h : ∀ j, j < 14 → 50 ≤ xs j ∧ xs j ≤ 405) {day : Int} (d0 : 90 ≤ day) (d1 : day ≤ 450) :
    rtE 0 14 xs 1 1 90 450 5000 6 true day = 0 ∧ rtN 0 14 xs 1 1 90 450 5000 6 true day = xs (day / 30 - 3).toNat ∧ rtD 0 14 xs 1 1 90 450 5000 6 true day = xs 0 := by
  have hB := ten_ix h
  have hs := secB_iff.2 ten_sec
  have o1 : ixO 0 14 xs (day / 30 - 3) = true := by simp only [ixO, hB, Bool.true_and, decide_eq_true_eq]; omega
  have o2 : ixO 0 14 xs (90 / 30 - 3) = true := by simp only [ixO, hB, Bool.true_and, decide_eq_true_eq]; omega
  have e : rtE 0 14 xs 1 1 90 450 5000 6 true day = 0 := by
    unfold rtE
    rw [hB, hs, o1, o2, if_pos rfl, if_pos rfl, if_pos ⟨d0, d1⟩]
    rfl
  refine ⟨e, ?_, ?_⟩
  · unfold rtN ixV
    rw [if_pos e, if_pos rfl, hB, if_pos ⟨rfl, by omega, by omega⟩, Int.sub_zero]
  · unfold rtD ixV
    rw [if_pos e, if_pos rfl, hB, if_pos ⟨rfl, by omega, by omega⟩]
    rfl
theorem ten_sc (h : ∀ j, j < 14 → 50 ≤ xs j ∧ xs j ≤ 405) {day a : Int} (d0 : 90 ≤ day) (d1 : day ≤ 450) (a0 : 0 ≤ a) (a1 : a ≤ 65535) :
    scE 0 14 xs 1 1 90 450 5000 6 true a day = 0 ∧ scV 0 14 xs 1 1 90 450 5000 6 true a day = (2 * a * xs (day / 30 - 3).toNat + xs 0) / (2 * xs 0) ∧ 0 ≤ scV 0 14 xs 1 1 90 450 5000 6 true a day ∧ scV 0 14 xs 1 1 90 450 5000 6 true a day ≤ 60000000 := by
  obtain ⟨e1, e2, e3⟩ := ten_rt h d0 d1
  have hn := h (day / 30 - 3).toNat (by omega)
  have hd := h 0 (by omega)
  obtain ⟨q0, q1⟩ := mul_bd (show 0 ≤ 2 * a by omega) (show 2 * a ≤ 131070 by omega) (show 0 ≤ xs (day / 30 - 3).toNat by omega) hn.2
  have v0 : 0 ≤ (2 * a * xs (day / 30 - 3).toNat + xs 0) / (2 * xs 0) := Int.ediv_nonneg (by omega) (by omega)
  have v1 : (2 * a * xs (day / 30 - 3).toNat + xs 0) / (2 * xs 0) ≤ 2 * a * xs (day / 30 - 3).toNat + xs 0 := Int.ediv_le_self _ (by omega)
  have ok : shOk a (xs (day / 30 - 3).toNat) (xs 0) = true := shOk_iff.2 ⟨⟨by omega, by omega⟩, ⟨by omega, by omega⟩, by omega, by omega⟩
  have hck : inB ((2 * a * xs (day / 30 - 3).toNat + xs 0) / (2 * xs 0)) 0 1000000000000 = true := inB_iff.2 (by omega)
  have f1 : scE 0 14 xs 1 1 90 450 5000 6 true a day = 0 := by
    unfold scE shE ckE
    rw [if_pos e1, e2, e3, ok, if_pos rfl, hck, if_pos rfl]
  have f2 : scV 0 14 xs 1 1 90 450 5000 6 true a day = (2 * a * xs (day / 30 - 3).toNat + xs 0) / (2 * xs 0) := by
    unfold scV shV ckV
    rw [if_pos e1, e2, e3, ok, if_pos rfl, hck, if_pos rfl]
  exact ⟨f1, f2, by rw [f2]; omega, by rw [f2]; omega⟩
/-- a greater value never pays less -/
theorem grows_facts {ys : Nat → Int} (h : ∀ j, j < 14 → 50 ≤ xs j ∧ xs j ≤ 405) (h' : ∀ j, j < 14 → 50 ≤ ys j ∧ ys j ≤ 405) (h0 : ys 0 = xs 0) {day a : Int} (d0 : 90 ≤ day) (d1 : day ≤ 450) (hg : xs (day / 30 - 3).toNat ≤ ys (day / 30 - 3).toNat) (a0 : 0 ≤ a) (a1 : a ≤ 65535) :
    scV 0 14 xs 1 1 90 450 5000 6 true a day ≤ scV 0 14 ys 1 1 90 450 5000 6 true a day := by
  rw [(ten_sc h d0 d1 a0 a1).2.1, (ten_sc h' d0 d1 a0 a1).2.1, h0]
  have hd := h 0 (by omega)
  have : 2 * a * xs (day / 30 - 3).toNat ≤ 2 * a * ys (day / 30 - 3).toNat := Int.mul_le_mul_of_nonneg_left hg (by omega)
  exact Int.ediv_le_ediv (by omega) (by omega)
/-- on the day of issue nothing is scaled -/
theorem ten_first (h : ∀ j, j < 14 → 50 ≤ xs j ∧ xs j ≤ 405) {a : Int} (a0 : 0 ≤ a) (a1 : a ≤ 65535) : scV 0 14 xs 1 1 90 450 5000 6 true a 90 = a := by
  have e := (ten_sc h (day := 90) (by omega) (by omega) a0 a1).2.1
  rw [e, show ((90 : Int) / 30 - 3).toNat = 0 by decide]
  have hd := h 0 (by omega)
  have e2 : 2 * a * xs 0 + xs 0 = xs 0 + a * (2 * xs 0) := by rw [Int.mul_left_comm a 2 (xs 0), Int.mul_assoc, Int.add_comm]
  rw [e2, Int.add_mul_ediv_right _ _ (by omega)]
  have : xs 0 / (2 * xs 0) = 0 := Int.ediv_eq_zero_of_lt (by omega) (by omega)
  omega
end

/-- the world at the head of the loop -/
def tenWorld (w2 : World) (g : Nat) : World := (w2.alloc (.cells #[.int .i64 1, .int .i64 1, .int .i64 90, .int .i64 450, .int .i64 5000, .int .i64 6, .bool true] 27)).alloc (.cells #[.int .i64 0, .slice (some ⟨g, 0, none⟩) 14 14] 40)
theorem tenWorld_below (w2 : World) (g : Nat) : Below w2.heap.size w2 (tenWorld w2 g) := ((Below.refl _ _).alloc (Nat.le_refl _) _).alloc (by simp) _
theorem tenWorld_size (w2 : World) (g : Nat) : (tenWorld w2 g).heap.size = w2.heap.size + 2 := by simp [tenWorld]
theorem ten_boxes0 (w2 : World) (g : Nat) : (tenWorld w2 g).cell? ⟨w2.heap.size, 0, none⟩ = some (.int .i64 1) ∧ (tenWorld w2 g).cell? ⟨w2.heap.size, 1, none⟩ = some (.int .i64 1) ∧ (tenWorld w2 g).cell? ⟨w2.heap.size, 2, none⟩ = some (.int .i64 90) ∧ (tenWorld w2 g).cell? ⟨w2.heap.size, 3, none⟩ = some (.int .i64 450) ∧ (tenWorld w2 g).cell? ⟨w2.heap.size, 4, none⟩ = some (.int .i64 5000) ∧ (tenWorld w2 g).cell? ⟨w2.heap.size, 5, none⟩ = some (.int .i64 6) ∧ (tenWorld w2 g).cell? ⟨w2.heap.size, 6, none⟩ = some (.bool true) ∧ (tenWorld w2 g).cell? ⟨w2.heap.size + 1, 0, none⟩ = some (.int .i64 0) ∧ (tenWorld w2 g).cell? ⟨w2.heap.size + 1, 1, none⟩ = some (.slice (some ⟨g, 0, none⟩) 14 14) := by
  unfold tenWorld
  refine ⟨?_, ?_, ?_, ?_, ?_, ?_, ?_, ?_, ?_⟩
  all_goals first
    | (rw [World.cell?_alloc_past _ _ _ (by simp), World.cell?_alloc_at _ _ _ _ rfl]; rfl)
    | (rw [World.cell?_alloc_at _ _ _ _ (by simp)]; rfl)
theorem ten_boxes {w2 wr : World} {g sb : Nat} (h : Keep2 sb g (tenWorld w2 g) wr) (h1 : sb < w2.heap.size) (h2 : g < w2.heap.size) : wr.cell? ⟨w2.heap.size, 0, none⟩ = some (.int .i64 1) ∧ wr.cell? ⟨w2.heap.size, 1, none⟩ = some (.int .i64 1) ∧ wr.cell? ⟨w2.heap.size, 2, none⟩ = some (.int .i64 90) ∧ wr.cell? ⟨w2.heap.size, 3, none⟩ = some (.int .i64 450) ∧ wr.cell? ⟨w2.heap.size, 4, none⟩ = some (.int .i64 5000) ∧ wr.cell? ⟨w2.heap.size, 5, none⟩ = some (.int .i64 6) ∧ wr.cell? ⟨w2.heap.size, 6, none⟩ = some (.bool true) ∧ wr.cell? ⟨w2.heap.size + 1, 0, none⟩ = some (.int .i64 0) ∧ wr.cell? ⟨w2.heap.size + 1, 1, none⟩ = some (.slice (some ⟨g, 0, none⟩) 14 14) := by
  obtain ⟨c0, c1, c2, c3, c4, c5, c6, c7, c8⟩ := ten_boxes0 w2 g
  exact ⟨h.cell c0 (by omega) (by omega), h.cell c1 (by omega) (by omega), h.cell c2 (by omega) (by omega), h.cell c3 (by omega) (by omega), h.cell c4 (by omega) (by omega), h.cell c5 (by omega) (by omega), h.cell c6 (by omega) (by omega), h.cell c7 (by omega) (by omega), h.cell c8 (by omega) (by omega)⟩
theorem tenbox_grown {w w' : World} {B g sb : Nat} (h : w.cell? ⟨B, 0, none⟩ = some (.int .i64 1) ∧ w.cell? ⟨B, 1, none⟩ = some (.int .i64 1) ∧ w.cell? ⟨B, 2, none⟩ = some (.int .i64 90) ∧ w.cell? ⟨B, 3, none⟩ = some (.int .i64 450) ∧ w.cell? ⟨B, 4, none⟩ = some (.int .i64 5000) ∧ w.cell? ⟨B, 5, none⟩ = some (.int .i64 6) ∧ w.cell? ⟨B, 6, none⟩ = some (.bool true) ∧ w.cell? ⟨B + 1, 0, none⟩ = some (.int .i64 0) ∧ w.cell? ⟨B + 1, 1, none⟩ = some (.slice (some ⟨g, 0, none⟩) 14 14)) (hg : w.grownBy w' (some sb)) (hne : sb < B) : w'.cell? ⟨B, 0, none⟩ = some (.int .i64 1) ∧ w'.cell? ⟨B, 1, none⟩ = some (.int .i64 1) ∧ w'.cell? ⟨B, 2, none⟩ = some (.int .i64 90) ∧ w'.cell? ⟨B, 3, none⟩ = some (.int .i64 450) ∧ w'.cell? ⟨B, 4, none⟩ = some (.int .i64 5000) ∧ w'.cell? ⟨B, 5, none⟩ = some (.int .i64 6) ∧ w'.cell? ⟨B, 6, none⟩ = some (.bool true) ∧ w'.cell? ⟨B + 1, 0, none⟩ = some (.int .i64 0) ∧ w'.cell? ⟨B + 1, 1, none⟩ = some (.slice (some ⟨g, 0, none⟩) 14 14) := by
  obtain ⟨h0, h1, h2, h3, h4, h5, h6, h7, h8⟩ := h
  exact ⟨hg.cell h0 (by simp; omega), hg.cell h1 (by simp; omega), hg.cell h2 (by simp; omega), hg.cell h3 (by simp; omega), hg.cell h4 (by simp; omega), hg.cell h5 (by simp; omega), hg.cell h6 (by simp; omega), hg.cell h7 (by simp; omega), hg.cell h8 (by simp; omega)⟩
theorem tenbox_below {w w' : World} {B g : Nat} (h : w.cell? ⟨B, 0, none⟩ = some (.int .i64 1) ∧ w.cell? ⟨B, 1, none⟩ = some (.int .i64 1) ∧ w.cell? ⟨B, 2, none⟩ = some (.int .i64 90) ∧ w.cell? ⟨B, 3, none⟩ = some (.int .i64 450) ∧ w.cell? ⟨B, 4, none⟩ = some (.int .i64 5000) ∧ w.cell? ⟨B, 5, none⟩ = some (.int .i64 6) ∧ w.cell? ⟨B, 6, none⟩ = some (.bool true) ∧ w.cell? ⟨B + 1, 0, none⟩ = some (.int .i64 0) ∧ w.cell? ⟨B + 1, 1, none⟩ = some (.slice (some ⟨g, 0, none⟩) 14 14)) (hb : Below w.heap.size w w') : w'.cell? ⟨B, 0, none⟩ = some (.int .i64 1) ∧ w'.cell? ⟨B, 1, none⟩ = some (.int .i64 1) ∧ w'.cell? ⟨B, 2, none⟩ = some (.int .i64 90) ∧ w'.cell? ⟨B, 3, none⟩ = some (.int .i64 450) ∧ w'.cell? ⟨B, 4, none⟩ = some (.int .i64 5000) ∧ w'.cell? ⟨B, 5, none⟩ = some (.int .i64 6) ∧ w'.cell? ⟨B, 6, none⟩ = some (.bool true) ∧ w'.cell? ⟨B + 1, 0, none⟩ = some (.int .i64 0) ∧ w'.cell? ⟨B + 1, 1, none⟩ = some (.slice (some ⟨g, 0, none⟩) 14 14) := by
  have q := World.block_lt_of_cell? w _ h.1
  have q2 := World.block_lt_of_cell? w _ h.2.2.2.2.2.2.2.1
  simp only at q q2
  obtain ⟨h0, h1, h2, h3, h4, h5, h6, h7, h8⟩ := h
  exact ⟨(hb.cell (by exact q)).trans h0, (hb.cell (by exact q)).trans h1, (hb.cell (by exact q)).trans h2, (hb.cell (by exact q)).trans h3, (hb.cell (by exact q)).trans h4, (hb.cell (by exact q)).trans h5, (hb.cell (by exact q)).trans h6, (hb.cell (by exact q2)).trans h7, (hb.cell (by exact q2)).trans h8⟩
theorem finv_start {w2 : World} {sb g : Nat} (hS : SrcOk w2 sb) (hc : ∀ j, j < 14 → w2.cell? ⟨g, j, none⟩ = some (.int .i64 (tenL j))) (hf : ∀ o, w2.frozen? ⟨g, o, none⟩ = false) (hg : g < w2.heap.size) : FInv sb g 0 (tenWorld w2 g) (tenWorld w2 g) := by
  have hb := tenWorld_below w2 g
  exact ⟨srcOk_below hS hb (srcOk_lt hS), Keep2.refl _ _ _, fun j hj => ⟨tenL j, (hb.cell (by exact hg)).trans (hc j hj), fun h => by omega⟩, fun o => (hb.frozen (by exact hg)).trans (hf o)⟩
end Go.Proofs.Ytkbkohkhpmpddaa
