/- Slices that are read, slices that are built: small laws. -/
import Derived.Test.YtkbkohkhpmpddaaNum
import Derived.Lib.Hide
import Derived.KernelRfl
namespace Go.Proofs.Ytkbkohkhpmpddaa
open Go.RowKit
set_option linter.unusedVariables false

/-- v is a slice of n elements whose cells, in a block with P, are xs -/
def SlAt (w : World) (P : Nat → Prop) (v : Value) (n : Nat) (xs : List Value) : Prop :=
  ∃ ao c, v = .slice ao n c ∧ n ≤ c ∧ c ≤ maxLen ∧ (xs = [] ∨ ∃ b off, ao = some ⟨b, off, none⟩ ∧ P b ∧ ∀ j, (h : j < xs.length) → w.cell? ⟨b, off + j, none⟩ = some xs[j])
theorem SlAt.mono {w : World} {P Q : Nat → Prop} {v : Value} {n : Nat} {xs : List Value} (h : SlAt w P v n xs) (hq : ∀ b, P b → Q b) : SlAt w Q v n xs := by
  obtain ⟨ao, c, h1, h2, h3, h4⟩ := h
  refine ⟨ao, c, h1, h2, h3, ?_⟩
  rcases h4 with h4 | ⟨b, off, k1, k2, k3⟩
  · exact .inl h4
  · exact .inr ⟨b, off, k1, hq b k2, k3⟩
theorem SlAt.below {w w' : World} {P : Nat → Prop} {v : Value} {n : Nat} {xs : List Value} (h : SlAt w P v n xs) (hb : Below w.heap.size w w') : SlAt w' P v n xs := by
  obtain ⟨ao, c, h1, h2, h3, h4⟩ := h
  refine ⟨ao, c, h1, h2, h3, ?_⟩
  rcases h4 with h4 | ⟨b, off, k1, k2, k3⟩
  · exact .inl h4
  · refine .inr ⟨b, off, k1, k2, fun j hj => ?_⟩
    have := k3 j hj
    exact (hb.cell (World.block_lt_of_cell? w _ this)).trans this
theorem SlAt.grown {w w' : World} {P : Nat → Prop} {v : Value} {n sb : Nat} {xs : List Value} (h : SlAt w P v n xs) (hg : w.grownBy w' (some sb)) (hp : ∀ b, P b → b ≠ sb) : SlAt w' P v n xs := by
  obtain ⟨ao, c, h1, h2, h3, h4⟩ := h
  refine ⟨ao, c, h1, h2, h3, ?_⟩
  rcases h4 with h4 | ⟨b, off, k1, k2, k3⟩
  · exact .inl h4
  · exact .inr ⟨b, off, k1, k2, fun j hj => hg.cell (k3 j hj) (by simpa using hp b k2)⟩
theorem SlAt.own {w : World} {base : Nat} {e : TypeId} {size : Nat} {v : Value} {n : Nat} {xs : List Value} (h : w.ownsRow base e size v n xs) : SlAt w (base ≤ ·) v n xs := by
  have hc := fun g hg => World.ownsRow.cells h (g := g) hg
  rcases h.2 with ⟨rfl, rfl⟩ | ⟨g, cap, cur, rfl, hbg, hg, hnc, hcm, hcs, htake⟩
  · exact ⟨none, 0, rfl, Nat.le_refl _, Nat.zero_le _, .inl (List.eq_nil_of_length_eq_zero (by simpa using h.1))⟩
  · refine ⟨_, cap, rfl, hnc, hcm, .inr ⟨g, 0, rfl, hbg, fun j hj => ?_⟩⟩
    have := hc g rfl j xs[j] (List.getElem?_eq_getElem hj)
    by_cases h0 : j = 0
    · subst h0; simpa [Addr.add] using this
    · simpa [Addr.add, h0] using this

theorem infoInt : (Try.prog.info? 3).map (fun i => (i.zero, i.size, i.bytes)) = some (some (.int .i64 0), 1, 8) := by kernel_rfl
/-- one new cell, for an append of one element of one cell -/
theorem news1 (w : World) (v : Value) (t : TypeId) : ∀ j u, [v][j]? = some u → (w.alloc (.cells #[v] t)).cell? ((⟨w.heap.size, 0, none⟩ : Addr).add j) = some u := by
  intro j u hj
  match j, hj with
  | 0, hj =>
    simp only [List.getElem?_cons_zero, Option.some.injEq] at hj
    subst hj
    simp [Addr.add]
theorem one1 (k : IntKind) (n : Int) : ∀ u ∈ [Value.int k n], u.oneCell' = true := by
  intro u hu
  simp only [List.mem_singleton] at hu
  subst hu
  rfl
end Go.Proofs.Ytkbkohkhpmpddaa
