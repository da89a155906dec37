/- Contracts of the small tests on numbers. Slices that are read, slices that are built: small laws. Lists of structs that lie in memory: reading them, building them. The structs of the program as Lean structures: their cells, their reading out of a slice. Printed by wip/gen/types.py. Regions that draw their order, whose operations read and whose callees at most make memory: one walk in the order of the text. Laws of append, copy and clear on rows that the call owns, elements of any number of cells. -/
import Derived.Test.YtenbbmmbpjjjpaaProg
import Derived.WalkKit
import Derived.Lib.Hide
import Derived.KernelRfl
import Derived.Deep.DeepMust
import Derived.Deep.QuietTactic
import Derived.BigQuiet
import Derived.Lib.AppendZerosOnto
import Derived.Lib.Overlaps
import Derived.Laws.Externs
import Derived.Laws.OwnMore
import Derived.Laws.CopyOwn
import Derived.Deep.RegionLaw
namespace Go.Proofs.Ytenbbmmbpjjjpaa
open Go.RowKit

/-- n lies from lo to hi -/
def inB (n lo hi : Int) : Bool := decide (lo ≤ n ∧ n ≤ hi)
theorem inB_iff {n lo hi : Int} : inB n lo hi = true ↔ lo ≤ n ∧ n ≤ hi := by simp [inB]
theorem inB_not {n lo hi : Int} : inB n lo hi = false ↔ ¬ (lo ≤ n ∧ n ≤ hi) := by rw [← inB_iff]; simp
theorem ret_bool {a b : Bool} (h : a = b) : Ending.returned (.bool a) = .returned (.bool b) := by rw [h]
theorem ret_int {k : IntKind} {a b : Int} (h : a = b) : Ending.returned (.int k a) = .returned (.int k b) := by rw [h]

theorem mul_bd {a b A B : Int} (a0 : 0 ≤ a) (a1 : a ≤ A) (b0 : 0 ≤ b) (b1 : b ≤ B) : 0 ≤ a * b ∧ a * b ≤ A * B :=
  ⟨Int.mul_nonneg a0 b0, Int.mul_le_mul a1 b1 b0 (by omega)⟩
theorem bcell {W w1 : World} (hb : Below W.heap.size W w1) : (∀ b o, b < W.heap.size → w1.cell? ⟨b, o, none⟩ = W.cell? ⟨b, o, none⟩) ∧ (∀ b o, b < W.heap.size → w1.frozen? ⟨b, o, none⟩ = W.frozen? ⟨b, o, none⟩) :=
  ⟨fun b o h => hb.cell (p := ⟨b, o, none⟩) h, fun b o h => hb.frozen (p := ⟨b, o, none⟩) h⟩

theorem valid_any (n : Int) (w : World) : Calls Try.prog 46 #[.int .i64 n] w fun e w' => e = .returned (.bool (inB n 0 1000000000000)) ∧ w = w' := by
  go_enter Try.func46, Try.ntmps46
  go_wp2
  all_goals (go_ret; exact ⟨ret_bool (by simp only [inB]; first | (rw [Bool.eq_iff_iff]; simp; omega) | (simp; omega)), rfl⟩)
theorem r01valid_any (n : Int) (w : World) : Calls Try.prog 47 #[.int .i64 n] w fun e w' => e = .returned (.bool (inB n 0 1000000000000)) ∧ w = w' := by
  go_enter Try.func47, Try.ntmps47
  go_wp2
  all_goals (go_ret; exact ⟨ret_bool (by simp only [inB]; first | (rw [Bool.eq_iff_iff]; simp; omega) | (simp; omega)), rfl⟩)
end Go.Proofs.Ytenbbmmbpjjjpaa
namespace Go.Proofs.Ytenbbmmbpjjjpaa
open Go.RowKit
set_option linter.unusedVariables false

/-- v is a slice of n elements whose cells, in a block with P, are xs -/
def SlAt (w : World) (P : Nat → Prop) (v : Value) (n : Nat) (xs : List Value) : Prop :=
  ∃ ao c, v = .slice ao n c ∧ n ≤ c ∧ c ≤ maxLen ∧ (xs = [] ∨ ∃ b off, ao = some ⟨b, off, none⟩ ∧ P b ∧ ∀ j, (h : j < xs.length) → w.cell? ⟨b, off + j, none⟩ = some xs[j])
theorem SlAt.mono {w : World} {P Q : Nat → Prop} {v : Value} {n : Nat} {xs : List Value} (h : SlAt w P v n xs) (hq : ∀ b, P b → Q b) : SlAt w Q v n xs := by
  obtain ⟨ao, c, h1, h2, h3, h4⟩ := h
  refine ⟨ao, c, h1, h2, h3, ?_⟩
  rcases h4 with h4 | ⟨b, off, k1, k2, k3⟩
  · exact .inl h4
  · exact .inr ⟨b, off, k1, hq b k2, k3⟩
theorem SlAt.below {w w' : World} {P : Nat → Prop} {v : Value} {n : Nat} {xs : List Value} (h : SlAt w P v n xs) (hb : Below w.heap.size w w') : SlAt w' P v n xs := by
  obtain ⟨ao, c, h1, h2, h3, h4⟩ := h
  refine ⟨ao, c, h1, h2, h3, ?_⟩
  rcases h4 with h4 | ⟨b, off, k1, k2, k3⟩
  · exact .inl h4
  · refine .inr ⟨b, off, k1, k2, fun j hj => ?_⟩
    have := k3 j hj
    exact (hb.cell (World.block_lt_of_cell? w _ this)).trans this
theorem SlAt.grown {w w' : World} {P : Nat → Prop} {v : Value} {n sb : Nat} {xs : List Value} (h : SlAt w P v n xs) (hg : w.grownBy w' (some sb)) (hp : ∀ b, P b → b ≠ sb) : SlAt w' P v n xs := by
  obtain ⟨ao, c, h1, h2, h3, h4⟩ := h
  refine ⟨ao, c, h1, h2, h3, ?_⟩
  rcases h4 with h4 | ⟨b, off, k1, k2, k3⟩
  · exact .inl h4
  · exact .inr ⟨b, off, k1, k2, fun j hj => hg.cell (k3 j hj) (by simpa using hp b k2)⟩
theorem SlAt.own {w : World} {base : Nat} {e : TypeId} {size : Nat} {v : Value} {n : Nat} {xs : List Value} (h : w.ownsRow base e size v n xs) : SlAt w (base ≤ ·) v n xs := by
  have hc := fun g hg => World.ownsRow.cells h (g := g) hg
  rcases h.2 with ⟨rfl, rfl⟩ | ⟨g, cap, cur, rfl, hbg, hg, hnc, hcm, hcs, htake⟩
  · exact ⟨none, 0, rfl, Nat.le_refl _, Nat.zero_le _, .inl (List.eq_nil_of_length_eq_zero (by simpa using h.1))⟩
  · refine ⟨_, cap, rfl, hnc, hcm, .inr ⟨g, 0, rfl, hbg, fun j hj => ?_⟩⟩
    have := hc g rfl j xs[j] (List.getElem?_eq_getElem hj)
    by_cases h0 : j = 0
    · subst h0; simpa [Addr.add] using this
    · simpa [Addr.add, h0] using this

theorem infoInt : (Try.prog.info? 3).map (fun i => (i.zero, i.size, i.bytes)) = some (some (.int .i64 0), 1, 8) := by kernel_rfl
/-- one new cell, for an append of one element of one cell -/
theorem news1 (w : World) (v : Value) (t : TypeId) : ∀ j u, [v][j]? = some u → (w.alloc (.cells #[v] t)).cell? ((⟨w.heap.size, 0, none⟩ : Addr).add j) = some u := by
  intro j u hj
  match j, hj with
  | 0, hj =>
    simp only [List.getElem?_cons_zero, Option.some.injEq] at hj
    subst hj
    simp [Addr.add]
theorem one1 (k : IntKind) (n : Int) : ∀ u ∈ [Value.int k n], u.oneCell' = true := by
  intro u hu
  simp only [List.mem_singleton] at hu
  subst hu
  rfl
/-- a row that is owned and not empty, written out -/
theorem own_shape {w : World} {base : Nat} {e : TypeId} {v : Value} {n : Nat} {xs : List Value} (h : w.ownsRow base e 1 v n xs) (hn : 0 < n) :
    ∃ g cap, v = .slice (some ⟨g, 0, none⟩) n cap ∧ base ≤ g ∧ g < w.heap.size ∧ n ≤ cap ∧ cap ≤ maxLen ∧ (∀ j u, xs[j]? = some u → w.cell? ⟨g, j, none⟩ = some u) ∧ ∀ o, w.frozen? ⟨g, o, none⟩ = false := by
  have hc := fun g hg => World.ownsRow.cells h (g := g) hg
  rcases h.2 with ⟨rfl, rfl⟩ | ⟨g, cap, cur, rfl, hbg, hg, hnc, hcm, hcs, htake⟩
  · omega
  · refine ⟨g, cap, rfl, hbg, (Array.getElem?_eq_some_iff.1 hg).1, hnc, hcm, fun j u hj => ?_, fun o => ?_⟩
    · have := hc g rfl j u hj
      by_cases h0 : j = 0
      · subst h0; simpa [Addr.add] using this
      · simpa [Addr.add, h0] using this
    · unfold World.frozen?
      simp only [hg]
      simp
/-- the cells of a block of integers, for an append of several -/
theorem newsN {w : World} {g n : Nat} {xs : Nat → Int} (h : ∀ j, j < n → w.cell? ⟨g, j, none⟩ = some (.int .i64 (xs j))) : ∀ j u, ((List.range n).map fun j => Value.int .i64 (xs j))[j]? = some u → w.cell? ((⟨g, 0, none⟩ : Addr).add j) = some u := by
  intro j u hj
  rw [List.getElem?_map, Option.map_eq_some_iff] at hj
  obtain ⟨q, hq, rfl⟩ := hj
  by_cases hjn : j < n
  · rw [List.getElem?_range hjn] at hq
    cases hq
    have := h j hjn
    by_cases h0 : j = 0
    · subst h0; simpa [Addr.add] using this
    · simpa [Addr.add, h0] using this
  · rw [List.getElem?_eq_none (by simp; omega)] at hq
    cases hq
theorem oneN (n : Nat) (xs : Nat → Int) : ∀ u ∈ (List.range n).map (fun j => Value.int .i64 (xs j)), u.oneCell' = true := by
  intro u hu
  obtain ⟨j, _, rfl⟩ := List.mem_map.1 hu
  rfl
end Go.Proofs.Ytenbbmmbpjjjpaa
namespace Go.Proofs.Ytenbbmmbpjjjpaa
open Go.RowKit
set_option linter.unusedVariables false

/-- v is a slice with the elements L, each of the cells enc, z of them, in a block with P -/
def Sl {α : Type} (z : Nat) (enc : α → List Value) (P : Nat → Prop) (w : World) (v : Value) (L : List α) : Prop :=
  ∃ ao n c, v = .slice ao n c ∧ L.length = n ∧ n ≤ c ∧ c ≤ maxLen ∧ (n = 0 ∨ ∃ b off, ao = some ⟨b, off, none⟩ ∧ P b ∧ b < w.heap.size ∧ ∀ j a, L[j]? = some a → ∀ i u, (enc a)[i]? = some u → w.cell? ⟨b, off + j * z + i, none⟩ = some u)
section
variable {α : Type} {z : Nat} {enc : α → List Value} {P Q : Nat → Prop} {w w' : World} {v : Value} {L : List α}
theorem Sl.nil : Sl z enc P w (.slice none 0 0) [] := ⟨none, 0, 0, rfl, rfl, Nat.le_refl _, Nat.zero_le _, .inl rfl⟩
theorem Sl.mono (h : Sl z enc P w v L) (hq : ∀ b, P b → b < w.heap.size → Q b) : Sl z enc Q w v L := by
  obtain ⟨ao, n, c, h1, h2, h3, h4, h5⟩ := h
  refine ⟨ao, n, c, h1, h2, h3, h4, ?_⟩
  rcases h5 with h5 | ⟨b, off, k1, k2, k3, k4⟩
  · exact .inl h5
  · exact .inr ⟨b, off, k1, hq b k2 k3, k3, k4⟩
theorem Sl.block (h : Sl z enc P w v L) (hs : w.heap.size ≤ w'.heap.size) (hb : ∀ b, P b → b < w.heap.size → w'.heap[b]? = w.heap[b]?) : Sl z enc P w' v L := by
  obtain ⟨ao, n, c, h1, h2, h3, h4, h5⟩ := h
  refine ⟨ao, n, c, h1, h2, h3, h4, ?_⟩
  rcases h5 with h5 | ⟨b, off, k1, k2, k3, k4⟩
  · exact .inl h5
  · refine .inr ⟨b, off, k1, k2, by omega, fun j a hj i u hi => ?_⟩
    exact (World.cell?_of_block (a := ⟨b, _, none⟩) (hb b k2 k3)).trans (k4 j a hj i u hi)
theorem Sl.below (h : Sl z enc P w v L) (hb : Below w.heap.size w w') : Sl z enc P w' v L := h.block hb.size fun b _ hlt => hb.block b hlt
theorem Sl.belowB {B : Nat} (h : Sl z enc P w v L) (hb : Below B w w') (hp : ∀ b, P b → b < B) : Sl z enc P w' v L := h.block hb.size fun b hp' _ => hb.block b (hp b hp')
theorem Sl.grown {x : Nat} (h : Sl z enc P w v L) (hg : w.grownBy w' (some x)) (hp : ∀ b, P b → b ≠ x) : Sl z enc P w' v L := h.block hg.size fun b hp' hlt => hg.block b hlt (by simpa using hp b hp')
theorem Sl.alloc (h : Sl z enc P w v L) (o : Obj) : Sl z enc P (w.alloc o) v L := h.below ((Below.refl _ _).alloc (Nat.le_refl _) _)
theorem Sl.drewN (h : Sl z enc P w v L) (n : Nat) : Sl z enc P (w.drewN n) v L := h.block (Nat.le_refl _) fun _ _ _ => rfl
theorem Sl.shape (h : Sl z enc P w v L) : ∃ ao n c, v = .slice ao n c ∧ L.length = n ∧ n ≤ c ∧ c ≤ maxLen := by
  obtain ⟨ao, n, c, h1, h2, h3, h4, _⟩ := h
  exact ⟨ao, n, c, h1, h2, h3, h4⟩
/-- the place of an element -/
theorem Sl.at_ {ao : Option Addr} {n c k : Nat} (h : Sl z enc P w (.slice ao n c) L) (hk : k < n) : ∃ b off a, ao = some ⟨b, off, none⟩ ∧ P b ∧ b < w.heap.size ∧ L[k]? = some a ∧ ∀ i u, (enc a)[i]? = some u → w.cell? ⟨b, off + k * z + i, none⟩ = some u := by
  obtain ⟨ao', n', c', h1, h2, h3, h4, h5⟩ := h
  cases h1
  rcases h5 with h5 | ⟨b, off, k1, k2, k3, k4⟩
  · omega
  · have hl : k < L.length := by omega
    exact ⟨b, off, L[k], k1, k2, k3, List.getElem?_eq_getElem hl, fun i u hi => k4 k _ (List.getElem?_eq_getElem hl) i u hi⟩
theorem Sl.len {ao : Option Addr} {n c : Nat} (h : Sl z enc P w (.slice ao n c) L) : L.length = n := by
  obtain ⟨ao', n', c', h1, h2, _⟩ := h
  cases h1; exact h2
end
/-- the cells of a list -/
def flatE {α : Type} (enc : α → List Value) (L : List α) : List Value := L.flatMap enc
theorem flatE_snoc {α : Type} (enc : α → List Value) (L : List α) (a : α) : flatE enc (L ++ [a]) = flatE enc L ++ enc a := by simp [flatE]
theorem flatE_append {α : Type} (enc : α → List Value) (L M : List α) : flatE enc (L ++ M) = flatE enc L ++ flatE enc M := by simp [flatE]
theorem flatE_get {α : Type} {enc : α → List Value} {z : Nat} (hz : ∀ a, (enc a).length = z) : ∀ (L : List α) (j : Nat) (a : α), L[j]? = some a → ∀ i u, (enc a)[i]? = some u → (flatE enc L)[j * z + i]? = some u
  | [], j, a, hj, i, u, hi => by simp at hj
  | x :: L, 0, a, hj, i, u, hi => by
    simp only [List.getElem?_cons_zero, Option.some.injEq] at hj
    subst hj
    have hlt : i < (enc x).length := (List.getElem?_eq_some_iff.1 hi).1
    simp only [flatE, List.flatMap_cons, Nat.zero_mul, Nat.zero_add]
    rw [List.getElem?_append_left hlt]; exact hi
  | x :: L, j + 1, a, hj, i, u, hi => by
    simp only [List.getElem?_cons_succ] at hj
    have ih := flatE_get hz L j a hj i u hi
    simp only [flatE, List.flatMap_cons]
    rw [List.getElem?_append_right (by rw [hz, Nat.add_mul]; omega), hz, Nat.add_mul, show j * z + 1 * z + i - z = j * z + i by omega]
    exact ih
theorem flatE_length {α : Type} {enc : α → List Value} {z : Nat} (hz : ∀ a, (enc a).length = z) (L : List α) : (flatE enc L).length = L.length * z := by
  induction L with
  | nil => simp [flatE]
  | cons a L ih =>
    simp only [flatE, List.flatMap_cons, List.length_append, hz, List.length_cons] at ih ⊢
    rw [ih, Nat.add_mul]; omega
/-- a row that is owned, of elements of any size, written out -/
theorem ownZ_shape {w : World} {base : Nat} {e : TypeId} {size : Nat} {v : Value} {n : Nat} {xs : List Value} (h : w.ownsRow base e size v n xs) (hn : 0 < n) :
    ∃ g cap, v = .slice (some ⟨g, 0, none⟩) n cap ∧ base ≤ g ∧ g < w.heap.size ∧ n ≤ cap ∧ cap ≤ maxLen ∧ (∀ j u, xs[j]? = some u → w.cell? ⟨g, j, none⟩ = some u) ∧ ∀ o, w.frozen? ⟨g, o, none⟩ = false := by
  have hc := fun g hg => World.ownsRow.cells h (g := g) hg
  rcases h.2 with ⟨rfl, rfl⟩ | ⟨g, cap, cur, rfl, hbg, hg, hnc, hcm, hcs, htake⟩
  · omega
  · refine ⟨g, cap, rfl, hbg, (Array.getElem?_eq_some_iff.1 hg).1, hnc, hcm, fun j u hj => ?_, fun o => ?_⟩
    · have := hc g rfl j u hj
      by_cases h0 : j = 0
      · subst h0; simpa [Addr.add] using this
      · simpa [Addr.add, h0] using this
    · unfold World.frozen?
      simp only [hg]
      simp
theorem Sl.own {α : Type} {z : Nat} {enc : α → List Value} (hz : ∀ a, (enc a).length = z) {P : Nat → Prop} {w : World} {base : Nat} {e : TypeId} {v : Value} {n : Nat} {L : List α} (h : w.ownsRow base e z v n (flatE enc L)) (hn : L.length = n) (hp : ∀ b, base ≤ b → P b) : Sl z enc P w v L := by
  rcases Nat.eq_zero_or_pos n with h0 | h0
  · rcases h.2 with ⟨rfl, rfl⟩ | ⟨g, cap, cur, rfl, hbg, hg, hnc, hcm, hcs, htake⟩
    · exact ⟨none, 0, 0, rfl, hn, Nat.le_refl _, Nat.zero_le _, .inl rfl⟩
    · exact ⟨_, n, cap, rfl, hn, hnc, hcm, .inl h0⟩
  · obtain ⟨g, cap, rfl, hbg, hg, hnc, hcm, hc, _⟩ := ownZ_shape h h0
    refine ⟨_, n, cap, rfl, hn, hnc, hcm, .inr ⟨g, 0, rfl, hp g hbg, hg, fun j a hj i u hi => ?_⟩⟩
    rw [Nat.zero_add]
    exact hc _ u (flatE_get hz L j a hj i u hi)
theorem ownsRow_belowZ {w w' : World} {base : Nat} {e : TypeId} {size : Nat} {v : Value} {n : Nat} {xs : List Value} (h : w.ownsRow base e size v n xs) (hb : Below w.heap.size w w') : w'.ownsRow base e size v n xs := by
  refine ⟨h.1, ?_⟩
  rcases h.2 with hn | ⟨g, cap, cur, rfl, hbg, hgg, rest⟩
  · exact .inl hn
  · exact .inr ⟨g, cap, cur, rfl, hbg, (hb.block g (Array.getElem?_eq_some_iff.1 hgg).1).trans hgg, rest⟩
theorem ownsRow_baseZ {w : World} {b b' : Nat} {e : TypeId} {size : Nat} {v : Value} {n : Nat} {xs : List Value} (h : w.ownsRow b e size v n xs) (hb : b' ≤ b) : w.ownsRow b' e size v n xs := by
  refine ⟨h.1, ?_⟩
  rcases h.2 with hn | ⟨g, cap, cur, rfl, hbg, rest⟩
  · exact .inl hn
  · exact .inr ⟨g, cap, cur, rfl, by omega, rest⟩
/-- the cells of a new box, for an append of one element -/
theorem newsL (w : World) (vs : List Value) (t : TypeId) : ∀ j u, vs[j]? = some u → (w.alloc (.cells vs.toArray t)).cell? ((⟨w.heap.size, 0, none⟩ : Addr).add j) = some u := by
  intro j u hj
  have e : (⟨w.heap.size, 0, none⟩ : Addr).add j = ⟨w.heap.size, j, none⟩ := by unfold Addr.add; split <;> simp_all
  rw [e, World.cell?_alloc_at _ _ _ _ rfl]
  simpa using hj
theorem below_boxZ {w w1 : World} {o : Obj} (h : Below (w.alloc o).heap.size (w.alloc o) w1) : Below w.heap.size w w1 := ((Below.refl _ _).alloc (Nat.le_refl _) _).trans (h.mono (by simp))
theorem below_upZ {B : Nat} {w w1 w2 : World} (h : Below B w w1) (h1 : Below w1.heap.size w1 w2) (hB : B ≤ w1.heap.size) : Below B w w2 := h.trans (h1.mono hB)
theorem below_drewZ {B : Nat} {a w : World} (h : Below B a w) (n : Nat) : Below B a (w.drewN n) := ⟨h.os, h.tape, h.output, h.size, h.block⟩
/-- a new box on top -/
theorem boxed_cell {w w1 : World} {C : Array Value} {T : TypeId} (hb : Below (w.alloc (.cells C T)).heap.size (w.alloc (.cells C T)) w1) (i : Nat) {v : Value} (hv : C[i]? = some v) : w1.cell? ⟨w.heap.size, i, none⟩ = some v :=
  (hb.cell (p := ⟨w.heap.size, i, none⟩) (by simp)).trans ((World.cell?_alloc_at _ _ _ _ rfl).trans hv)

theorem bal {w w1 : World} (h : Below w.heap.size w w1) (o : Obj) : Below w.heap.size w (w1.alloc o) := h.alloc h.size _
theorem bdr {B : Nat} {w w1 : World} (h : Below B w w1) : Below B w w1.drew := ⟨h.os, h.tape, h.output, h.size, h.block⟩
theorem bup {w w1 w2 : World} (h : Below w.heap.size w w1) (h1 : Below w1.heap.size w1 w2) : Below w.heap.size w w2 := h.trans (h1.mono h.size)
theorem keepB {w w1 : World} (hb : Below w.heap.size w w1) {p : Addr} {v : Value} (h : w.cell? p = some v) : w1.cell? p = some v := (hb.cell (World.block_lt_of_cell? w p h)).trans h
theorem bset {w w1 : World} (h : Below w.heap.size w w1) {p : Addr} (hp : w.heap.size ≤ p.block) (v : Value) : Below w.heap.size w (w1.setCell p v) := h.setCell hp v
theorem bset3 {w w1 : World} (h : Below w.heap.size w w1) {b : Nat} (hp : w.heap.size ≤ b) (v0 v1 v2 : Value) : Below w.heap.size w (((w1.setCell ⟨b, 0, none⟩ v0).setCell ⟨b, 1, none⟩ v1).setCell ⟨b, 2, none⟩ v2) := bset (bset (bset h hp _) hp _) hp _
theorem bset7 {w w1 : World} (h : Below w.heap.size w w1) {b : Nat} (hp : w.heap.size ≤ b) (v0 v1 v2 v3 v4 v5 v6 : Value) : Below w.heap.size w (((((((w1.setCell ⟨b, 0, none⟩ v0).setCell ⟨b, 1, none⟩ v1).setCell ⟨b, 2, none⟩ v2).setCell ⟨b, 3, none⟩ v3).setCell ⟨b, 4, none⟩ v4).setCell ⟨b, 5, none⟩ v5).setCell ⟨b, 6, none⟩ v6) :=
  bset (bset (bset (bset (bset (bset (bset h hp _) hp _) hp _) hp _) hp _) hp _) hp _
theorem keepA {w : World} {o : Obj} {p : Addr} {v : Value} (h : w.cell? p = some v) : (w.alloc o).cell? p = some v := keepB ((Below.refl _ _).alloc (Nat.le_refl _) o) h
theorem brefl {w : World} : Below w.heap.size w w := Below.refl _ _

/-! lists that a loop goes through -/
theorem drop_cons {α : Type} {L : List α} {k : Nat} {a : α} (h : L[k]? = some a) : L.drop k = a :: L.drop (k + 1) := by
  obtain ⟨hk, rfl⟩ := List.getElem?_eq_some_iff.1 h
  exact List.drop_eq_getElem_cons hk
theorem drop_all {α : Type} {L : List α} {k : Nat} (h : L.length ≤ k) : L.drop k = [] := List.drop_of_length_le h
theorem take_snocZ {α : Type} {L : List α} {k : Nat} {a : α} (h : L[k]? = some a) : L.take (k + 1) = L.take k ++ [a] := by
  obtain ⟨hk, rfl⟩ := List.getElem?_eq_some_iff.1 h
  rw [List.take_succ_eq_append_getElem hk]
theorem take_all {α : Type} {L : List α} {k : Nat} (h : L.length ≤ k) : L.take k = L := List.take_of_length_le h

/-! integers -/
def encI (n : Int) : List Value := [.int .i64 n]
theorem encI_len (n : Int) : (encI n).length = 1 := rfl
theorem Sl.int {P : Nat → Prop} {w : World} {ao : Option Addr} {n c k : Nat} {L : List Int} (h : Sl 1 encI P w (.slice ao n c) L) (hk : k < n) :
    ∃ b off x, ao = some ⟨b, off, none⟩ ∧ P b ∧ b < w.heap.size ∧ L[k]? = some x ∧ w.cell? ⟨b, off + k, none⟩ = some (.int .i64 x) := by
  obtain ⟨b, off, a, h1, h2, h3, h4, h5⟩ := h.at_ hk
  exact ⟨b, off, a, h1, h2, h3, h4, by simpa using h5 0 _ rfl⟩
end Go.Proofs.Ytenbbmmbpjjjpaa
namespace Go.Proofs.Ytenbbmmbpjjjpaa
open Go.RowKit
set_option linter.unusedVariables false

structure Sec where
  id : Int
  un : Int
  is : Int
  ma : Int
  ra : Int
  ev : Int
  ix : Bool
def encSec (a : Sec) : List Value := [.int .i64 a.id, .int .i64 a.un, .int .i64 a.is, .int .i64 a.ma, .int .i64 a.ra, .int .i64 a.ev, .bool a.ix]
theorem encSec_len (a : Sec) : (encSec a).length = 7 := rfl
theorem oneSec (a : Sec) : ∀ u ∈ encSec a, u.oneCell' = true := by
  intro u hu
  simp only [encSec, List.mem_cons, List.not_mem_nil, or_false] at hu
  rcases hu with rfl | rfl | rfl | rfl | rfl | rfl | rfl <;> rfl
theorem Sl.sec {P : Nat → Prop} {w : World} {ao : Option Addr} {n c k : Nat} {L : List Sec} (h : Sl 7 encSec P w (.slice ao n c) L) (hk : k < n) :
    ∃ b off vid vun vis vma vra vev vix, ao = some ⟨b, off, none⟩ ∧ P b ∧ b < w.heap.size ∧ L[k]? = some ⟨vid, vun, vis, vma, vra, vev, vix⟩ ∧ w.cell? ⟨b, off + k * 7, none⟩ = some (.int .i64 vid) ∧ w.cell? ⟨b, off + k * 7 + 1, none⟩ = some (.int .i64 vun) ∧ w.cell? ⟨b, off + k * 7 + 2, none⟩ = some (.int .i64 vis) ∧ w.cell? ⟨b, off + k * 7 + 3, none⟩ = some (.int .i64 vma) ∧ w.cell? ⟨b, off + k * 7 + 4, none⟩ = some (.int .i64 vra) ∧ w.cell? ⟨b, off + k * 7 + 5, none⟩ = some (.int .i64 vev) ∧ w.cell? ⟨b, off + k * 7 + 6, none⟩ = some (.bool vix) := by
  obtain ⟨b, off, ⟨vid, vun, vis, vma, vra, vev, vix⟩, h1, h2, h3, h4, h5⟩ := h.at_ hk
  exact ⟨b, off, vid, vun, vis, vma, vra, vev, vix, h1, h2, h3, h4, h5 0 _ rfl, h5 1 _ rfl, h5 2 _ rfl, h5 3 _ rfl, h5 4 _ rfl, h5 5 _ rfl, h5 6 _ rfl⟩
structure Hold where
  s : Int
  h : Int
  a : Int
def encHold (a : Hold) : List Value := [.int .i64 a.s, .int .i64 a.h, .int .i64 a.a]
theorem encHold_len (a : Hold) : (encHold a).length = 3 := rfl
theorem oneHold (a : Hold) : ∀ u ∈ encHold a, u.oneCell' = true := by
  intro u hu
  simp only [encHold, List.mem_cons, List.not_mem_nil, or_false] at hu
  rcases hu with rfl | rfl | rfl <;> rfl
theorem Sl.hold {P : Nat → Prop} {w : World} {ao : Option Addr} {n c k : Nat} {L : List Hold} (h : Sl 3 encHold P w (.slice ao n c) L) (hk : k < n) :
    ∃ b off vs vh va, ao = some ⟨b, off, none⟩ ∧ P b ∧ b < w.heap.size ∧ L[k]? = some ⟨vs, vh, va⟩ ∧ w.cell? ⟨b, off + k * 3, none⟩ = some (.int .i64 vs) ∧ w.cell? ⟨b, off + k * 3 + 1, none⟩ = some (.int .i64 vh) ∧ w.cell? ⟨b, off + k * 3 + 2, none⟩ = some (.int .i64 va) := by
  obtain ⟨b, off, ⟨vs, vh, va⟩, h1, h2, h3, h4, h5⟩ := h.at_ hk
  exact ⟨b, off, vs, vh, va, h1, h2, h3, h4, h5 0 _ rfl, h5 1 _ rfl, h5 2 _ rfl⟩
structure Mv where
  num : Int
  day : Int
  kind : Int
  s : Int
  f : Int
  t : Int
  a : Int
def encMv (a : Mv) : List Value := [.int .i64 a.num, .int .i64 a.day, .int .i64 a.kind, .int .i64 a.s, .int .i64 a.f, .int .i64 a.t, .int .i64 a.a]
theorem encMv_len (a : Mv) : (encMv a).length = 7 := rfl
theorem oneMv (a : Mv) : ∀ u ∈ encMv a, u.oneCell' = true := by
  intro u hu
  simp only [encMv, List.mem_cons, List.not_mem_nil, or_false] at hu
  rcases hu with rfl | rfl | rfl | rfl | rfl | rfl | rfl <;> rfl
theorem Sl.mv {P : Nat → Prop} {w : World} {ao : Option Addr} {n c k : Nat} {L : List Mv} (h : Sl 7 encMv P w (.slice ao n c) L) (hk : k < n) :
    ∃ b off vnum vday vkind vs vf vt va, ao = some ⟨b, off, none⟩ ∧ P b ∧ b < w.heap.size ∧ L[k]? = some ⟨vnum, vday, vkind, vs, vf, vt, va⟩ ∧ w.cell? ⟨b, off + k * 7, none⟩ = some (.int .i64 vnum) ∧ w.cell? ⟨b, off + k * 7 + 1, none⟩ = some (.int .i64 vday) ∧ w.cell? ⟨b, off + k * 7 + 2, none⟩ = some (.int .i64 vkind) ∧ w.cell? ⟨b, off + k * 7 + 3, none⟩ = some (.int .i64 vs) ∧ w.cell? ⟨b, off + k * 7 + 4, none⟩ = some (.int .i64 vf) ∧ w.cell? ⟨b, off + k * 7 + 5, none⟩ = some (.int .i64 vt) ∧ w.cell? ⟨b, off + k * 7 + 6, none⟩ = some (.int .i64 va) := by
  obtain ⟨b, off, ⟨vnum, vday, vkind, vs, vf, vt, va⟩, h1, h2, h3, h4, h5⟩ := h.at_ hk
  exact ⟨b, off, vnum, vday, vkind, vs, vf, vt, va, h1, h2, h3, h4, h5 0 _ rfl, h5 1 _ rfl, h5 2 _ rfl, h5 3 _ rfl, h5 4 _ rfl, h5 5 _ rfl, h5 6 _ rfl⟩
structure Due where
  day : Int
  s : Int
  h : Int
  kind : Int
  a : Int
def encDue (a : Due) : List Value := [.int .i64 a.day, .int .i64 a.s, .int .i64 a.h, .int .i64 a.kind, .int .i64 a.a]
theorem encDue_len (a : Due) : (encDue a).length = 5 := rfl
theorem oneDue (a : Due) : ∀ u ∈ encDue a, u.oneCell' = true := by
  intro u hu
  simp only [encDue, List.mem_cons, List.not_mem_nil, or_false] at hu
  rcases hu with rfl | rfl | rfl | rfl | rfl <;> rfl
theorem Sl.due {P : Nat → Prop} {w : World} {ao : Option Addr} {n c k : Nat} {L : List Due} (h : Sl 5 encDue P w (.slice ao n c) L) (hk : k < n) :
    ∃ b off vday vs vh vkind va, ao = some ⟨b, off, none⟩ ∧ P b ∧ b < w.heap.size ∧ L[k]? = some ⟨vday, vs, vh, vkind, va⟩ ∧ w.cell? ⟨b, off + k * 5, none⟩ = some (.int .i64 vday) ∧ w.cell? ⟨b, off + k * 5 + 1, none⟩ = some (.int .i64 vs) ∧ w.cell? ⟨b, off + k * 5 + 2, none⟩ = some (.int .i64 vh) ∧ w.cell? ⟨b, off + k * 5 + 3, none⟩ = some (.int .i64 vkind) ∧ w.cell? ⟨b, off + k * 5 + 4, none⟩ = some (.int .i64 va) := by
  obtain ⟨b, off, ⟨vday, vs, vh, vkind, va⟩, h1, h2, h3, h4, h5⟩ := h.at_ hk
  exact ⟨b, off, vday, vs, vh, vkind, va, h1, h2, h3, h4, h5 0 _ rfl, h5 1 _ rfl, h5 2 _ rfl, h5 3 _ rfl, h5 4 _ rfl⟩
structure Flow where
  day : Int
  a : Int
  kind : Int
  ref : Int
def encFlow (a : Flow) : List Value := [.int .i64 a.day, .int .i64 a.a, .int .i64 a.kind, .int .i64 a.ref]
theorem encFlow_len (a : Flow) : (encFlow a).length = 4 := rfl
theorem oneFlow (a : Flow) : ∀ u ∈ encFlow a, u.oneCell' = true := by
  intro u hu
  simp only [encFlow, List.mem_cons, List.not_mem_nil, or_false] at hu
  rcases hu with rfl | rfl | rfl | rfl <;> rfl
theorem Sl.flow {P : Nat → Prop} {w : World} {ao : Option Addr} {n c k : Nat} {L : List Flow} (h : Sl 4 encFlow P w (.slice ao n c) L) (hk : k < n) :
    ∃ b off vday va vkind vref, ao = some ⟨b, off, none⟩ ∧ P b ∧ b < w.heap.size ∧ L[k]? = some ⟨vday, va, vkind, vref⟩ ∧ w.cell? ⟨b, off + k * 4, none⟩ = some (.int .i64 vday) ∧ w.cell? ⟨b, off + k * 4 + 1, none⟩ = some (.int .i64 va) ∧ w.cell? ⟨b, off + k * 4 + 2, none⟩ = some (.int .i64 vkind) ∧ w.cell? ⟨b, off + k * 4 + 3, none⟩ = some (.int .i64 vref) := by
  obtain ⟨b, off, ⟨vday, va, vkind, vref⟩, h1, h2, h3, h4, h5⟩ := h.at_ hk
  exact ⟨b, off, vday, va, vkind, vref, h1, h2, h3, h4, h5 0 _ rfl, h5 1 _ rfl, h5 2 _ rfl, h5 3 _ rfl⟩
structure Stp where
  s : Int
  d : Int
  p : Bool
  h : Int
  a : Int
def encStp (a : Stp) : List Value := [.int .i64 a.s, .int .i64 a.d, .bool a.p, .int .i64 a.h, .int .i64 a.a]
theorem encStp_len (a : Stp) : (encStp a).length = 5 := rfl
theorem oneStp (a : Stp) : ∀ u ∈ encStp a, u.oneCell' = true := by
  intro u hu
  simp only [encStp, List.mem_cons, List.not_mem_nil, or_false] at hu
  rcases hu with rfl | rfl | rfl | rfl | rfl <;> rfl
theorem Sl.stp {P : Nat → Prop} {w : World} {ao : Option Addr} {n c k : Nat} {L : List Stp} (h : Sl 5 encStp P w (.slice ao n c) L) (hk : k < n) :
    ∃ b off vs vd vp vh va, ao = some ⟨b, off, none⟩ ∧ P b ∧ b < w.heap.size ∧ L[k]? = some ⟨vs, vd, vp, vh, va⟩ ∧ w.cell? ⟨b, off + k * 5, none⟩ = some (.int .i64 vs) ∧ w.cell? ⟨b, off + k * 5 + 1, none⟩ = some (.int .i64 vd) ∧ w.cell? ⟨b, off + k * 5 + 2, none⟩ = some (.bool vp) ∧ w.cell? ⟨b, off + k * 5 + 3, none⟩ = some (.int .i64 vh) ∧ w.cell? ⟨b, off + k * 5 + 4, none⟩ = some (.int .i64 va) := by
  obtain ⟨b, off, ⟨vs, vd, vp, vh, va⟩, h1, h2, h3, h4, h5⟩ := h.at_ hk
  exact ⟨b, off, vs, vd, vp, vh, va, h1, h2, h3, h4, h5 0 _ rfl, h5 1 _ rfl, h5 2 _ rfl, h5 3 _ rfl, h5 4 _ rfl⟩
end Go.Proofs.Ytenbbmmbpjjjpaa
namespace Go.Proofs.Ytenbbmmbpjjjpaa
open Go.RowKit
set_option linter.unusedVariables false

/-- a world in which all that lies in w is as it was -/
def Up (w : World) : Type := {w' : World // Below w.heap.size w w'}
instance {w : World} : Nonempty (Up w) := ⟨⟨w, brefl⟩⟩
theorem wp_region_up {P : Program} {id : Nat} {Q : Exit → Act → World → Prop} {a : Act} {w : World} {l : List Oper} (hm : P.follows .mixedOrders = true) (hB : Region.lexB .any l.toArray = true)
    (h : wpQuiet P l.toArray (fun w' => ∃ x : Up w, w' = x.1) (fun a' => ∀ w', (∃ x : Up w, w' = x.1) → Q .normal a' w') l a) : (Code.region id l.toArray true).wp P Q a w :=
  wp_region_quiet (C := fun w' => ∃ x : Up w, w' = x.1) hm hB ⟨⟨w.drew, bdr brefl⟩, rfl⟩ (by simpa using h)
theorem up_cell {w : World} {p : Addr} {v : Value} (h : w.cell? p = some v) : ∀ x : Up w, x.1.cell? p = some v := fun x => keepB x.2 h
theorem up_frozen {w : World} {b o : Nat} (hb : b < w.heap.size) {f : Bool} (h : w.frozen? ⟨b, o, none⟩ = f) : ∀ x : Up w, x.1.frozen? ⟨b, o, none⟩ = f := fun x => (x.2.frozen (p := ⟨b, o, none⟩) hb).trans h
/-- a contract that leaves a world above the one that it got, in such a region -/
theorem up_call {P : Program} {f : FuncId} {args : Array Value} {w : World} {x : Up w} {v : Value} (h : Calls P f args x.1 fun e w' => e = .returned v ∧ Below x.1.heap.size x.1 w') : Calls P f args x.1 fun e w'' => e = .returned v ∧ ∃ y : Up w, w'' = y.1 :=
  h.mono fun _ w' ⟨he, hb⟩ => ⟨he, ⟨w', bup x.2 hb⟩, rfl⟩
theorem up_same {P : Program} {f : FuncId} {args : Array Value} {w : World} {x : Up w} {v : Value} (h : Calls P f args x.1 fun e w' => e = .returned v ∧ x.1 = w') : Calls P f args x.1 fun e w'' => e = .returned v ∧ ∃ y : Up w, w'' = y.1 :=
  h.mono fun _ w' ⟨he, hb⟩ => ⟨he, x, hb.symm⟩
theorem up_drew {P : Program} {f : FuncId} {args : Array Value} {w : World} {x : Up w} {v : Value} (h : Calls P f args x.1 fun e w' => e = .returned v ∧ ∃ n, w' = x.1.drewN n) : Calls P f args x.1 fun e w'' => e = .returned v ∧ ∃ y : Up w, w'' = y.1 :=
  h.mono fun _ w' ⟨he, n, hb⟩ => ⟨he, ⟨w', by rw [hb]; exact below_drewZ x.2 n⟩, rfl⟩
end Go.Proofs.Ytenbbmmbpjjjpaa
namespace Go.Proofs.Ytenbbmmbpjjjpaa
open Go.RowKit
set_option linter.unusedVariables false
set_option linter.unusedSimpArgs false

section
variable {P : Program}
theorem run_copy_rowZ (w : World) (dT sT ty elem : TypeId) (g o dLen dCap : Nat) (a : Addr) (sLen sCap : Nat) (cur : Array Value) (t : TypeId) (cs : List Value) (z n : Nat)
    (hu : P.underlying dT = some (.slice elem)) (hs : (P.info? elem).map (·.size) = some z)
    (hg : w.heap[g]? = some (.cells cur t (0, 0))) (hn : Nat.min sLen dLen = n) (hl : cs.length = n * z)
    (hsrc : ∀ j v, cs[j]? = some v → w.cell? (a.add j) = some v) (hfit : o + cs.length ≤ cur.size) (h1 : ∀ v ∈ cs, v.oneCell' = true) :
    (Builtin.copy_ #[dT, sT] ty #[.slice (some ⟨g, o, none⟩) dLen dCap, .slice (some a) sLen sCap]).run P w =
      .ok (goInt n) (w.setRow g (cur.toList.take o ++ cs ++ cur.toList.drop (o + cs.length)).toArray) := by
  have hf := run_firstCells_some (P := P) w z n a sLen sCap cs hl hsrc
  have hst := run_storeCells_at P g o t cs 0 cur w hg (by simpa using hfit) h1
  cases hq : P.info? elem with
  | none => simp [hq] at hs
  | some i =>
    have hi : i.size = z := by simpa [hq] using hs
    simp [Builtin.copy_, run_underlying hu, Builtin.lenOf, sizeOf, typeInfo, hq, hi, hn, hf, hst]
theorem wp_copy_runZ (w : World) {o : Oper} {a : Act} {K : Act → World → Prop} {Q : Exit → Act → World → Prop} (d s : Operand) (t t' : TypeId)
    (ho : o.op = .call { callee := .builtin .copy, args := #[d, s], argTypes := #[t, t'] }) (v u : Value) (hd : a.eval d = v) (hs : a.eval s = u) {v' : Value} {w' : World}
    (hr : (Builtin.copy_ #[t, t'] o.type #[v, u]).run P w = .ok v' w') (h : K (a.put o.dst v') w') : o.wp P a w K Q := by
  unfold Oper.wp execOp
  simp only [ho, resolve, invoke, builtin, Sem.run_bind, Sem.run_pure, Result.andThen_ok, List.map_toArray, List.map_cons, List.map_nil, hd, hs, hr]
  exact h
theorem wpList_copy_runZ (w : World) {ops : Array Oper} {rest : List Oper} {o : Oper} {a : Act} {Q : Exit → Act → World → Prop} (hgd : o.guard = none) (d s : Operand) (t t' : TypeId)
    (ho : o.op = .call { callee := .builtin .copy, args := #[d, s], argTypes := #[t, t'] }) (v u : Value) (hd : a.eval d = v) (hs : a.eval s = u) {v' : Value} {w' : World}
    (hr : (Builtin.copy_ #[t, t'] o.type #[v, u]).run P w = .ok v' w') (h : wpList P ops Q rest (a.put o.dst v') w') : wpList P ops Q (o :: rest) a w :=
  wpList_plain hgd fun _ hK => wp_copy_runZ w d s t t' ho v u hd hs hr (hK _ _ h)
theorem step_copy_runZ {ops : Array Oper} {o : Oper} {a : Act} {w : World} {K : Act → World → Prop} {Q : Exit → Act → World → Prop} {E : Prop}
    (hg : o.guard = none) (d x : Operand) (dT sT : TypeId) (hop : o.op = Op.call { callee := Callee.builtin Builtin.copy, args := #[d, x], argTypes := #[dT, sT] })
    (v u : Value) (hd : a.eval d = v) (hx : a.eval x = u) {v' : Value} {w' : World} (hr : (Builtin.copy_ #[dT, sT] o.type #[v, u]).run P w = .ok v' w') (hK : K (a.put o.dst v') w') :
    if Region.wanted o (yielded ops a.tmps) = true then Oper.wp P o a w K Q else E := by
  have hw : Region.wanted o (yielded ops a.tmps) = true := by simp [Region.wanted, hg]
  rw [if_pos hw]
  unfold Oper.wp
  simp [execOp, hop, resolve, invoke, builtin, hd, hx, hr, Result.andThen]
  exact hK
/-- an append as one step of a region that draws -/
theorem step_append_runZ {ops : Array Oper} {o : Oper} {a : Act} {w : World} {K : Act → World → Prop} {Q : Exit → Act → World → Prop} {E : Prop}
    (hg : o.guard = none) (d x : Operand) (dT sT : TypeId) (hop : o.op = Op.call { callee := Callee.builtin Builtin.append, args := #[d, x], argTypes := #[dT, sT] })
    (v u : Value) (hd : a.eval d = v) (hx : a.eval x = u) {v' : Value} {w' : World} (hr : (Builtin.append_ #[dT, sT] o.type #[v, u]).run P w = .ok v' w') (hK : K (a.put o.dst v') w') :
    if Region.wanted o (yielded ops a.tmps) = true then Oper.wp P o a w K Q else E := by
  have hw : Region.wanted o (yielded ops a.tmps) = true := by simp [Region.wanted, hg]
  rw [if_pos hw]
  unfold Oper.wp
  simp [execOp, hop, resolve, invoke, builtin, hd, hx, hr, Result.andThen]
  exact hK
theorem wpList_clear_runZ (w : World) {ops : Array Oper} {rest : List Oper} {o : Oper} {a : Act} {Q : Exit → Act → World → Prop} (hgd : o.guard = none) (s : Operand) (t : TypeId)
    (ho : o.op = .call { callee := .builtin .clear, args := #[s], argTypes := #[t] }) (v : Value) (hs : a.eval s = v) {v' : Value} {w' : World}
    (hr : (Builtin.clear_ #[t] o.type #[v]).run P w = .ok v' w') (h : wpList P ops Q rest (a.put o.dst v') w') : wpList P ops Q (o :: rest) a w := by
  refine wpList_plain hgd fun _ hK => ?_
  unfold Oper.wp execOp
  simp only [ho, resolve, invoke, builtin, Sem.run_bind, Sem.run_pure, Result.andThen_ok, List.map_toArray, List.map_cons, List.map_nil, hs, hr]
  exact hK _ _ h
theorem run_clear_rowZ (w : World) (t elem ty : TypeId) (i : TypeInfo) (zv : Value) (g o n c : Nat) (cur : Array Value) (tt : TypeId)
    (hu : P.underlying t = some (.slice elem)) (hi : P.info? elem = some i) (hz : i.zero = some zv)
    (hg : w.heap[g]? = some (.cells cur tt (0, 0))) (hfit : o + (Builtin.zeroCells zv.cells n).toList.length ≤ cur.size) (h1 : ∀ v ∈ (Builtin.zeroCells zv.cells n).toList, v.oneCell' = true) :
    (Builtin.clear_ #[t] ty #[.slice (some ⟨g, o, none⟩) n c]).run P w =
      .ok (.tuple #[]) (w.setRow g (cur.toList.take o ++ (Builtin.zeroCells zv.cells n).toList ++ cur.toList.drop (o + (Builtin.zeroCells zv.cells n).toList.length)).toArray) := by
  have hst := run_storeCells_at P g o tt (Builtin.zeroCells zv.cells n).toList 0 cur w hg (by simpa using hfit) h1
  cases n with
  | zero =>
    simp [Builtin.clear_, run_underlying hu, Builtin.zeroCells]
    rw [setRow_self w g cur tt (0, 0) hg]
  | succ n =>
    simp at hst
    simp [Builtin.clear_, run_underlying hu, zeroValue, typeInfo, hi, hz, hst, Result.andThen]
end
theorem heap_setRow {w : World} {g : Nat} {old cs : Array Value} {t : TypeId} (hg : w.heap[g]? = some (.cells old t (0, 0))) : (w.setRow g cs).heap[g]? = some (.cells cs t (0, 0)) := setRow_heap w g old cs t _ hg
theorem grownBy_setRow (w : World) (g : Nat) (cs : Array Value) : w.grownBy (w.setRow g cs) (some g) :=
  ⟨rfl, rfl, rfl, by simp [World.setRow], fun k _ hne => setRow_other w g k cs (by simpa using hne)⟩
theorem grownBy_transZ {a b c : World} {row : Option Nat} (h : a.grownBy b row) (k : b.grownBy c row) : a.grownBy c row :=
  ⟨k.os.trans h.os, k.tape.trans h.tape, k.output.trans h.output, Nat.le_trans h.size k.size, fun i hi hne => (k.block i (Nat.lt_of_lt_of_le hi h.size) hne).trans (h.block i hi hne)⟩
theorem grownBy_new {a b : World} {row : Option Nat} (h : a.heap.size ≤ b.heap.size) (ho : b.os = a.os) (ht : b.tape = a.tape) (hu : b.output = a.output) (hb : ∀ k, k < a.heap.size → some k ≠ row → b.heap[k]? = a.heap[k]?) : a.grownBy b row := ⟨ho, ht, hu, h, hb⟩
/-- a row that is owned, known whole -/
theorem own_whole {w : World} {base : Nat} {e : TypeId} {z : Nat} {v : Value} {n : Nat} {xs : List Value} (h : w.ownsRow base e z v n xs) (hn : 0 < n) :
    ∃ g cap rest, v = .slice (some ⟨g, 0, none⟩) n cap ∧ base ≤ g ∧ w.heap[g]? = some (.cells (xs ++ rest).toArray e (0, 0)) ∧ n ≤ cap ∧ cap ≤ maxLen ∧ xs.length = n * z ∧ (xs ++ rest).length = cap * z := by
  rcases h.2 with ⟨rfl, rfl⟩ | ⟨g, cap, cur, rfl, hbg, hg, hnc, hcm, hcs, htake⟩
  · omega
  · have e : xs ++ cur.toList.drop (n * z) = cur.toList := by rw [← htake]; exact List.take_append_drop _ _
    exact ⟨g, cap, cur.toList.drop (n * z), rfl, hbg, by rw [e]; simpa using hg, hnc, hcm, h.1, by rw [e]; simpa using hcs⟩
theorem own_mk {w : World} {base g cap n z : Nat} {e : TypeId} {xs rest : List Value} (hbg : base ≤ g) (hg : w.heap[g]? = some (.cells (xs ++ rest).toArray e (0, 0))) (hnc : n ≤ cap) (hcm : cap ≤ maxLen) (hx : xs.length = n * z) (hl : (xs ++ rest).length = cap * z) :
    w.ownsRow base e z (.slice (some ⟨g, 0, none⟩) n cap) n xs :=
  ⟨hx, .inr ⟨g, cap, _, rfl, hbg, hg, hnc, hcm, by simpa using hl, by rw [← hx]; exact List.take_left⟩⟩
theorem cell_whole {w : World} {g : Nat} {e : TypeId} {xs : List Value} (hg : w.heap[g]? = some (.cells xs.toArray e (0, 0))) {j : Nat} {u : Value} (hj : xs[j]? = some u) : w.cell? ⟨g, j, none⟩ = some u := by
  rw [cell_of_row w g j _ e (0, 0) hg]
  simpa using hj
theorem add_litZ (g o j : Nat) : (⟨g, o, none⟩ : Addr).add j = ⟨g, o + j, none⟩ := by unfold Addr.add; split <;> simp_all
theorem oneE {α : Type} {enc : α → List Value} (h1 : ∀ a, ∀ u ∈ enc a, u.oneCell' = true) (L : List α) : ∀ u ∈ flatE enc L, u.oneCell' = true := by
  intro u hu
  obtain ⟨a, _, ha⟩ := List.mem_flatMap.1 hu
  exact h1 a u ha
theorem shift_rows (xs1 xs2 rest e : List Value) (p z : Nat) (h1 : xs1.length = p) (he : e.length = z) (hr : z ≤ (xs2 ++ rest).length) :
    (((xs1 ++ xs2 ++ rest).take (p + z) ++ xs2 ++ (xs1 ++ xs2 ++ rest).drop (p + z + xs2.length)).take p ++ e ++ ((xs1 ++ xs2 ++ rest).take (p + z) ++ xs2 ++ (xs1 ++ xs2 ++ rest).drop (p + z + xs2.length)).drop (p + e.length)) = (xs1 ++ (e ++ xs2)) ++ (xs1 ++ xs2 ++ rest).drop (p + z + xs2.length) := by
  subst h1 he
  have e0 : (xs1 ++ xs2 ++ rest).take (xs1.length + e.length) = xs1 ++ (xs2 ++ rest).take e.length := by
    rw [List.append_assoc, List.take_append]; simp
    exact List.take_of_length_le (by omega)
  rw [e0]
  have el : (xs1 ++ (xs2 ++ rest).take e.length).length = xs1.length + e.length := by
    rw [List.length_append, List.length_take, Nat.min_eq_left hr]
  have e1 : ((xs1 ++ (xs2 ++ rest).take e.length) ++ xs2 ++ (xs1 ++ xs2 ++ rest).drop (xs1.length + e.length + xs2.length)).take xs1.length = xs1 := by
    rw [List.append_assoc, List.append_assoc, List.take_left]
  have e2 : ((xs1 ++ (xs2 ++ rest).take e.length) ++ xs2 ++ (xs1 ++ xs2 ++ rest).drop (xs1.length + e.length + xs2.length)).drop (xs1.length + e.length) = xs2 ++ (xs1 ++ xs2 ++ rest).drop (xs1.length + e.length + xs2.length) := by
    rw [List.append_assoc (xs1 ++ _), ← el, List.drop_left]
  rw [e1, e2]; simp
end Go.Proofs.Ytenbbmmbpjjjpaa
