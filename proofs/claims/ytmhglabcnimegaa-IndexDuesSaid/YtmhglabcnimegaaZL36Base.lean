/- tenth and sane of the statements on indexes; worlds that differ in two blocks. -/
import Derived.Test.YtmhglabcnimegaaZIdx3
import Derived.Test.YtmhglabcnimegaaZSrcOdd
namespace Go.Proofs.Ytmhglabcnimegaa
open Go.RowKit
set_option linter.unusedVariables false

/-- w' is w with new blocks and with writes to the blocks p and q alone -/
structure Keep2 (p q : Nat) (w w' : World) : Prop where
  os : w'.os = w.os
  tape : w'.tape = w.tape
  output : w'.output = w.output
  size : w.heap.size ≤ w'.heap.size
  block : ∀ k, k < w.heap.size → k ≠ p → k ≠ q → w'.heap[k]? = w.heap[k]?
theorem Keep2.refl (p q : Nat) (w : World) : Keep2 p q w w := ⟨rfl, rfl, rfl, Nat.le_refl _, fun _ _ _ _ => rfl⟩
theorem Keep2.trans {p q : Nat} {a b c : World} (h : Keep2 p q a b) (k : Keep2 p q b c) : Keep2 p q a c :=
  ⟨k.os.trans h.os, k.tape.trans h.tape, k.output.trans h.output, Nat.le_trans h.size k.size, fun i hi h1 h2 => (k.block i (Nat.lt_of_lt_of_le hi h.size) h1 h2).trans (h.block i hi h1 h2)⟩
theorem Keep2.grown {p q : Nat} {a b : World} (h : a.grownBy b (some p)) : Keep2 p q a b := ⟨h.os, h.tape, h.output, h.size, fun i hi h1 _ => h.block i hi (by simpa using h1)⟩
theorem Keep2.set {p q : Nat} (a : World) (o : Nat) (v : Value) : Keep2 p q a (a.setCell ⟨q, o, none⟩ v) := ⟨rfl, rfl, rfl, by simp [World.setCell], fun i hi _ h2 => Below.heap_setCell _ _ _ _ h2⟩
theorem Keep2.cell {p q : Nat} {a b : World} (h : Keep2 p q a b) {k o : Nat} {v : Value} (hv : a.cell? ⟨k, o, none⟩ = some v) (h1 : k ≠ p) (h2 : k ≠ q) : b.cell? ⟨k, o, none⟩ = some v :=
  (World.cell?_of_block (w := a) (h.block k (World.block_lt_of_cell? a _ hv) h1 h2)).trans hv
theorem Keep2.below {p q B : Nat} {a b : World} (h : Keep2 p q a b) (hp : B ≤ p) (hq : B ≤ q) (hB : B ≤ a.heap.size) : Below B a b := ⟨h.os, h.tape, h.output, h.size, fun k hk => h.block k (by omega) (by omega) (by omega)⟩

/-- the values of the example -/
def tenL (i : Nat) : Int := ([100, 101, 102, 103, 104, 105, 110, 110, 110, 110, 110, 110, 110, 110] : List Int).getD i 0
/-- what tenth leaves -/
def TenMade (w : World) (e : Ending) (w' : World) : Prop :=
  ∃ g, e = .returned (.tuple #[.agg #[.int .i64 1, .int .i64 1, .int .i64 90, .int .i64 450, .int .i64 5000, .int .i64 6, .bool true], .agg #[.int .i64 0, .slice (some ⟨g, 0, none⟩) 14 14]]) ∧ w.heap.size ≤ g ∧ g < w'.heap.size ∧ (∀ j, j < 14 → w'.cell? ⟨g, j, none⟩ = some (.int .i64 (tenL j))) ∧ (∀ o, w'.frozen? ⟨g, o, none⟩ = false) ∧ Below w.heap.size w w'
theorem ten_mk (w : World) (O1 O2 : Obj) :
    TenMade w (.returned (.tuple #[.agg #[.int .i64 1, .int .i64 1, .int .i64 90, .int .i64 450, .int .i64 5000, .int .i64 6, .bool true], .agg #[.int .i64 0, .slice (some ⟨w.heap.size + 1 + 1, 0, none⟩) 14 14]])) (((w.alloc O1).alloc O2).alloc (.cells #[.int .i64 100, .int .i64 101, .int .i64 102, .int .i64 103, .int .i64 104, .int .i64 105, .int .i64 110, .int .i64 110, .int .i64 110, .int .i64 110, .int .i64 110, .int .i64 110, .int .i64 110, .int .i64 110] 3)) := by
  refine ⟨w.heap.size + 1 + 1, rfl, by omega, by simp, fun j hj => ?_, fun o => World.frozen?_alloc_at _ _ _ _ (by simp), (((Below.refl _ _).alloc (Nat.le_refl _) _).alloc (by simp) _).alloc (by simp; omega) _⟩
  rw [World.cell?_alloc_at _ _ _ _ (by simp)]
  have h14 : j = 0 ∨ j = 1 ∨ j = 2 ∨ j = 3 ∨ j = 4 ∨ j = 5 ∨ j = 6 ∨ j = 7 ∨ j = 8 ∨ j = 9 ∨ j = 10 ∨ j = 11 ∨ j = 12 ∨ j = 13 := by omega
  rcases h14 with rfl | rfl | rfl | rfl | rfl | rfl | rfl | rfl | rfl | rfl | rfl | rfl | rfl | rfl <;> rfl
theorem tenth_any (w : World) : Calls Try.prog 72 #[] w (TenMade w) := by
  go_enter Try.func72, Try.ntmps72
  go_wp2
  exact bodyPost_ret (v := .tuple #[.agg #[.int .i64 1, .int .i64 1, .int .i64 90, .int .i64 450, .int .i64 5000, .int .i64 6, .bool true], .agg #[.int .i64 0, .slice (some ⟨w.heap.size + 1 + 1, 0, none⟩) 14 14]]) (by simp [results, Try.results72, go_sem]) rfl (ten_mk w _ _)

set_option maxHeartbeats 400000 in
theorem sane36_any (w : World) : Calls Try.prog 71 #[] w fun e w' => e = .returned (.bool true) ∧ Below w.heap.size w w' := by
  have hx : ixB 0 14 tenL = true := by decide
  have D1 := Lib.hid (show scV 0 14 tenL 1 1 90 450 5000 6 true 1000 270 = 1100 ∧ scE 0 14 tenL 1 1 90 450 5000 6 true 1000 270 = 0 by decide)
  have D2 := Lib.hid (show ixE 0 14 tenL = 0 by simp [ixE, hx])
  clear hx
  go_enter Try.func71, Try.ntmps71
  go_wp2_with fail
  refine (tenth_any _).mono ?_
  rintro e w1 ⟨g, rfl, hg0, hg1, hc, hf, hb1⟩
  have HI := Lib.hid (show ∀ (W : World), Below w1.heap.size w1 W → IxOk W (some ⟨g, 0, none⟩) 14 14 tenL from fun W hW => (show IxOk w1 (some ⟨g, 0, none⟩) 14 14 tenL from ⟨Nat.le_refl _, by unfold maxLen; omega, .inr ⟨g, 0, rfl, fun j hj => by rw [Nat.zero_add]; exact hc j hj⟩⟩).below hW)
  clear hc hf
  go_wp2_with fail
  refine (scaled_any _ _ _ _ tenL _ _ _ _ _ _ _ _ _ _ (HI.out _ ?_)).mono ?_
  · exact ((Below.refl _ _).alloc (Nat.le_refl _) _).alloc (by simp) _
  rw [D1.out.1, D1.out.2]
  rintro e w2 ⟨rfl, hb2⟩
  obtain ⟨hc2, hf2⟩ := bcell hb2
  have z2 := hb2.size
  simp only [World.size_alloc] at z2
  have hz : w1.heap.size + 1 < w2.heap.size := by omega
  have hz' : w1.heap.size < w2.heap.size := by omega
  have hB2 := below_box2 hb2
  clear hb2
  go_wp2_with fail
  refine (idxcheck_any _ _ _ _ tenL _ (HI.out _ hB2)).mono ?_
  rw [D2.out]
  rintro e w3 ⟨rfl, hb3⟩
  go_wp2
  go_ret
  exact ⟨rfl, hb1.trans ((hB2.trans (hb3.mono (by omega))).mono hb1.size)⟩
end Go.Proofs.Ytmhglabcnimegaa
