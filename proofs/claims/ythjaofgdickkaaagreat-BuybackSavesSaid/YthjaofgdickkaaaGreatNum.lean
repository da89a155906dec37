/- Contracts of the small tests on numbers. -/
import Derived.Test.YthjaofgdickkaaaGreatProg
import Derived.WalkKit
namespace Go.Proofs.YthjaofgdickkaaaGreat
open Go.RowKit

/-- n lies from lo to hi -/
def inB (n lo hi : Int) : Bool := decide (lo ≤ n ∧ n ≤ hi)
theorem inB_iff {n lo hi : Int} : inB n lo hi = true ↔ lo ≤ n ∧ n ≤ hi := by simp [inB]
theorem inB_not {n lo hi : Int} : inB n lo hi = false ↔ ¬ (lo ≤ n ∧ n ≤ hi) := by rw [← inB_iff]; simp
theorem ret_bool {a b : Bool} (h : a = b) : Ending.returned (.bool a) = .returned (.bool b) := by rw [h]
theorem ret_int {k : IntKind} {a b : Int} (h : a = b) : Ending.returned (.int k a) = .returned (.int k b) := by rw [h]

theorem mul_bd {a b A B : Int} (a0 : 0 ≤ a) (a1 : a ≤ A) (b0 : 0 ≤ b) (b1 : b ≤ B) : 0 ≤ a * b ∧ a * b ≤ A * B :=
  ⟨Int.mul_nonneg a0 b0, Int.mul_le_mul a1 b1 b0 (by omega)⟩
theorem bcell {W w1 : World} (hb : Below W.heap.size W w1) : (∀ b o, b < W.heap.size → w1.cell? ⟨b, o, none⟩ = W.cell? ⟨b, o, none⟩) ∧ (∀ b o, b < W.heap.size → w1.frozen? ⟨b, o, none⟩ = W.frozen? ⟨b, o, none⟩) :=
  ⟨fun b o h => hb.cell (p := ⟨b, o, none⟩) h, fun b o h => hb.frozen (p := ⟨b, o, none⟩) h⟩

theorem valid_any (n : Int) (w : World) : Calls Tryz.prog 221 #[.int .i64 n] w fun e w' => e = .returned (.bool (inB n 0 1000000000000)) ∧ w = w' := by
  go_enter Tryz.func221, Tryz.ntmps221
  go_wp2
  all_goals (go_ret; exact ⟨ret_bool (by simp only [inB]; first | (rw [Bool.eq_iff_iff]; simp; omega) | (simp; omega)), rfl⟩)
theorem r01valid_any (n : Int) (w : World) : Calls Tryz.prog 129 #[.int .i64 n] w fun e w' => e = .returned (.bool (inB n 0 1000000000000)) ∧ w = w' := by
  go_enter Tryz.func129, Tryz.ntmps129
  go_wp2
  all_goals (go_ret; exact ⟨ret_bool (by simp only [inB]; first | (rw [Bool.eq_iff_iff]; simp; omega) | (simp; omega)), rfl⟩)
end Go.Proofs.YthjaofgdickkaaaGreat
