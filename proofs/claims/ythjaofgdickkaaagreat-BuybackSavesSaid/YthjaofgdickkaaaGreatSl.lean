/- Slices that are read, slices that are built: small laws. -/
import Derived.Test.YthjaofgdickkaaaGreatNum
import Derived.Lib.Hide
import Derived.KernelRfl
namespace Go.Proofs.YthjaofgdickkaaaGreat
open Go.RowKit
set_option linter.unusedVariables false

/-- v is a slice of n elements whose cells, in a block with P, are xs -/
def SlAt (w : World) (P : Nat → Prop) (v : Value) (n : Nat) (xs : List Value) : Prop :=
  ∃ ao c, v = .slice ao n c ∧ n ≤ c ∧ c ≤ maxLen ∧ (xs = [] ∨ ∃ b off, ao = some ⟨b, off, none⟩ ∧ P b ∧ ∀ j, (h : j < xs.length) → w.cell? ⟨b, off + j, none⟩ = some xs[j])
theorem SlAt.mono {w : World} {P Q : Nat → Prop} {v : Value} {n : Nat} {xs : List Value} (h : SlAt w P v n xs) (hq : ∀ b, P b → Q b) : SlAt w Q v n xs := by
  obtain ⟨ao, c, h1, h2, h3, h4⟩ := h
  refine ⟨ao, c, h1, h2, h3, ?_⟩
  rcases h4 with h4 | ⟨b, off, k1, k2, k3⟩
  · exact .inl h4
  · exact .inr ⟨b, off, k1, hq b k2, k3⟩
theorem SlAt.below {w w' : World} {P : Nat → Prop} {v : Value} {n : Nat} {xs : List Value} (h : SlAt w P v n xs) (hb : Below w.heap.size w w') : SlAt w' P v n xs := by
  obtain ⟨ao, c, h1, h2, h3, h4⟩ := h
  refine ⟨ao, c, h1, h2, h3, ?_⟩
  rcases h4 with h4 | ⟨b, off, k1, k2, k3⟩
  · exact .inl h4
  · refine .inr ⟨b, off, k1, k2, fun j hj => ?_⟩
    have := k3 j hj
    exact (hb.cell (World.block_lt_of_cell? w _ this)).trans this
theorem SlAt.grown {w w' : World} {P : Nat → Prop} {v : Value} {n sb : Nat} {xs : List Value} (h : SlAt w P v n xs) (hg : w.grownBy w' (some sb)) (hp : ∀ b, P b → b ≠ sb) : SlAt w' P v n xs := by
  obtain ⟨ao, c, h1, h2, h3, h4⟩ := h
  refine ⟨ao, c, h1, h2, h3, ?_⟩
  rcases h4 with h4 | ⟨b, off, k1, k2, k3⟩
  · exact .inl h4
  · exact .inr ⟨b, off, k1, k2, fun j hj => hg.cell (k3 j hj) (by simpa using hp b k2)⟩
theorem SlAt.own {w : World} {base : Nat} {e : TypeId} {size : Nat} {v : Value} {n : Nat} {xs : List Value} (h : w.ownsRow base e size v n xs) : SlAt w (base ≤ ·) v n xs := by
  have hc := fun g hg => World.ownsRow.cells h (g := g) hg
  rcases h.2 with ⟨rfl, rfl⟩ | ⟨g, cap, cur, rfl, hbg, hg, hnc, hcm, hcs, htake⟩
  · exact ⟨none, 0, rfl, Nat.le_refl _, Nat.zero_le _, .inl (List.eq_nil_of_length_eq_zero (by simpa using h.1))⟩
  · refine ⟨_, cap, rfl, hnc, hcm, .inr ⟨g, 0, rfl, hbg, fun j hj => ?_⟩⟩
    have := hc g rfl j xs[j] (List.getElem?_eq_getElem hj)
    by_cases h0 : j = 0
    · subst h0; simpa [Addr.add] using this
    · simpa [Addr.add, h0] using this

theorem infoInt : (Tryz.prog.info? 3).map (fun i => (i.zero, i.size, i.bytes)) = some (some (.int .i64 0), 1, 8) := by kernel_rfl
/-- one new cell, for an append of one element of one cell -/
theorem news1 (w : World) (v : Value) (t : TypeId) : ∀ j u, [v][j]? = some u → (w.alloc (.cells #[v] t)).cell? ((⟨w.heap.size, 0, none⟩ : Addr).add j) = some u := by
  intro j u hj
  match j, hj with
  | 0, hj =>
    simp only [List.getElem?_cons_zero, Option.some.injEq] at hj
    subst hj
    simp [Addr.add]
theorem one1 (k : IntKind) (n : Int) : ∀ u ∈ [Value.int k n], u.oneCell' = true := by
  intro u hu
  simp only [List.mem_singleton] at hu
  subst hu
  rfl
/-- a row that is owned and not empty, written out -/
theorem own_shape {w : World} {base : Nat} {e : TypeId} {v : Value} {n : Nat} {xs : List Value} (h : w.ownsRow base e 1 v n xs) (hn : 0 < n) :
    ∃ g cap, v = .slice (some ⟨g, 0, none⟩) n cap ∧ base ≤ g ∧ g < w.heap.size ∧ n ≤ cap ∧ cap ≤ maxLen ∧ (∀ j u, xs[j]? = some u → w.cell? ⟨g, j, none⟩ = some u) ∧ ∀ o, w.frozen? ⟨g, o, none⟩ = false := by
  have hc := fun g hg => World.ownsRow.cells h (g := g) hg
  rcases h.2 with ⟨rfl, rfl⟩ | ⟨g, cap, cur, rfl, hbg, hg, hnc, hcm, hcs, htake⟩
  · omega
  · refine ⟨g, cap, rfl, hbg, (Array.getElem?_eq_some_iff.1 hg).1, hnc, hcm, fun j u hj => ?_, fun o => ?_⟩
    · have := hc g rfl j u hj
      by_cases h0 : j = 0
      · subst h0; simpa [Addr.add] using this
      · simpa [Addr.add, h0] using this
    · unfold World.frozen?
      simp only [hg]
      simp
/-- the cells of a block of integers, for an append of several -/
theorem newsN {w : World} {g n : Nat} {xs : Nat → Int} (h : ∀ j, j < n → w.cell? ⟨g, j, none⟩ = some (.int .i64 (xs j))) : ∀ j u, ((List.range n).map fun j => Value.int .i64 (xs j))[j]? = some u → w.cell? ((⟨g, 0, none⟩ : Addr).add j) = some u := by
  intro j u hj
  rw [List.getElem?_map, Option.map_eq_some_iff] at hj
  obtain ⟨q, hq, rfl⟩ := hj
  by_cases hjn : j < n
  · rw [List.getElem?_range hjn] at hq
    cases hq
    have := h j hjn
    by_cases h0 : j = 0
    · subst h0; simpa [Addr.add] using this
    · simpa [Addr.add, h0] using this
  · rw [List.getElem?_eq_none (by simp; omega)] at hq
    cases hq
theorem oneN (n : Nat) (xs : Nat → Int) : ∀ u ∈ (List.range n).map (fun j => Value.int .i64 (xs j)), u.oneCell' = true := by
  intro u hu
  obtain ⟨j, _, rfl⟩ := List.mem_map.1 hu
  rfl
end Go.Proofs.YthjaofgdickkaaaGreat
