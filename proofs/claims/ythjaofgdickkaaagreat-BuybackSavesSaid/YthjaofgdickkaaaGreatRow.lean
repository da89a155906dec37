/- Lists of structs that lie in memory: reading them, building them. -/
import Derived.Test.YthjaofgdickkaaaGreatSl
import Derived.Deep.DeepMust
import Derived.Deep.QuietTactic
namespace Go.Proofs.YthjaofgdickkaaaGreat
open Go.RowKit
set_option linter.unusedVariables false

/-- v is a slice with the elements L, each of the cells enc, z of them, in a block with P -/
def Sl {α : Type} (z : Nat) (enc : α → List Value) (P : Nat → Prop) (w : World) (v : Value) (L : List α) : Prop :=
  ∃ ao n c, v = .slice ao n c ∧ L.length = n ∧ n ≤ c ∧ c ≤ maxLen ∧ (n = 0 ∨ ∃ b off, ao = some ⟨b, off, none⟩ ∧ P b ∧ b < w.heap.size ∧ ∀ j a, L[j]? = some a → ∀ i u, (enc a)[i]? = some u → w.cell? ⟨b, off + j * z + i, none⟩ = some u)
section
variable {α : Type} {z : Nat} {enc : α → List Value} {P Q : Nat → Prop} {w w' : World} {v : Value} {L : List α}
theorem Sl.nil : Sl z enc P w (.slice none 0 0) [] := ⟨none, 0, 0, rfl, rfl, Nat.le_refl _, Nat.zero_le _, .inl rfl⟩
theorem Sl.mono (h : Sl z enc P w v L) (hq : ∀ b, P b → b < w.heap.size → Q b) : Sl z enc Q w v L := by
  obtain ⟨ao, n, c, h1, h2, h3, h4, h5⟩ := h
  refine ⟨ao, n, c, h1, h2, h3, h4, ?_⟩
  rcases h5 with h5 | ⟨b, off, k1, k2, k3, k4⟩
  · exact .inl h5
  · exact .inr ⟨b, off, k1, hq b k2 k3, k3, k4⟩
theorem Sl.block (h : Sl z enc P w v L) (hs : w.heap.size ≤ w'.heap.size) (hb : ∀ b, P b → b < w.heap.size → w'.heap[b]? = w.heap[b]?) : Sl z enc P w' v L := by
  obtain ⟨ao, n, c, h1, h2, h3, h4, h5⟩ := h
  refine ⟨ao, n, c, h1, h2, h3, h4, ?_⟩
  rcases h5 with h5 | ⟨b, off, k1, k2, k3, k4⟩
  · exact .inl h5
  · refine .inr ⟨b, off, k1, k2, by omega, fun j a hj i u hi => ?_⟩
    exact (World.cell?_of_block (a := ⟨b, _, none⟩) (hb b k2 k3)).trans (k4 j a hj i u hi)
theorem Sl.below (h : Sl z enc P w v L) (hb : Below w.heap.size w w') : Sl z enc P w' v L := h.block hb.size fun b _ hlt => hb.block b hlt
theorem Sl.belowB {B : Nat} (h : Sl z enc P w v L) (hb : Below B w w') (hp : ∀ b, P b → b < B) : Sl z enc P w' v L := h.block hb.size fun b hp' _ => hb.block b (hp b hp')
theorem Sl.grown {x : Nat} (h : Sl z enc P w v L) (hg : w.grownBy w' (some x)) (hp : ∀ b, P b → b ≠ x) : Sl z enc P w' v L := h.block hg.size fun b hp' hlt => hg.block b hlt (by simpa using hp b hp')
theorem Sl.alloc (h : Sl z enc P w v L) (o : Obj) : Sl z enc P (w.alloc o) v L := h.below ((Below.refl _ _).alloc (Nat.le_refl _) _)
theorem Sl.drewN (h : Sl z enc P w v L) (n : Nat) : Sl z enc P (w.drewN n) v L := h.block (Nat.le_refl _) fun _ _ _ => rfl
theorem Sl.shape (h : Sl z enc P w v L) : ∃ ao n c, v = .slice ao n c ∧ L.length = n ∧ n ≤ c ∧ c ≤ maxLen := by
  obtain ⟨ao, n, c, h1, h2, h3, h4, _⟩ := h
  exact ⟨ao, n, c, h1, h2, h3, h4⟩
/-- the place of an element -/
theorem Sl.at_ {ao : Option Addr} {n c k : Nat} (h : Sl z enc P w (.slice ao n c) L) (hk : k < n) : ∃ b off a, ao = some ⟨b, off, none⟩ ∧ P b ∧ b < w.heap.size ∧ L[k]? = some a ∧ ∀ i u, (enc a)[i]? = some u → w.cell? ⟨b, off + k * z + i, none⟩ = some u := by
  obtain ⟨ao', n', c', h1, h2, h3, h4, h5⟩ := h
  cases h1
  rcases h5 with h5 | ⟨b, off, k1, k2, k3, k4⟩
  · omega
  · have hl : k < L.length := by omega
    exact ⟨b, off, L[k], k1, k2, k3, List.getElem?_eq_getElem hl, fun i u hi => k4 k _ (List.getElem?_eq_getElem hl) i u hi⟩
theorem Sl.len {ao : Option Addr} {n c : Nat} (h : Sl z enc P w (.slice ao n c) L) : L.length = n := by
  obtain ⟨ao', n', c', h1, h2, _⟩ := h
  cases h1; exact h2
end
/-- the cells of a list -/
def flatE {α : Type} (enc : α → List Value) (L : List α) : List Value := L.flatMap enc
theorem flatE_snoc {α : Type} (enc : α → List Value) (L : List α) (a : α) : flatE enc (L ++ [a]) = flatE enc L ++ enc a := by simp [flatE]
theorem flatE_append {α : Type} (enc : α → List Value) (L M : List α) : flatE enc (L ++ M) = flatE enc L ++ flatE enc M := by simp [flatE]
theorem flatE_get {α : Type} {enc : α → List Value} {z : Nat} (hz : ∀ a, (enc a).length = z) : ∀ (L : List α) (j : Nat) (a : α), L[j]? = some a → ∀ i u, (enc a)[i]? = some u → (flatE enc L)[j * z + i]? = some u
  | [], j, a, hj, i, u, hi => by simp at hj
  | x :: L, 0, a, hj, i, u, hi => by
    simp only [List.getElem?_cons_zero, Option.some.injEq] at hj
    subst hj
    have hlt : i < (enc x).length := (List.getElem?_eq_some_iff.1 hi).1
    simp only [flatE, List.flatMap_cons, Nat.zero_mul, Nat.zero_add]
    rw [List.getElem?_append_left hlt]; exact hi
  | x :: L, j + 1, a, hj, i, u, hi => by
    simp only [List.getElem?_cons_succ] at hj
    have ih := flatE_get hz L j a hj i u hi
    simp only [flatE, List.flatMap_cons]
    rw [List.getElem?_append_right (by rw [hz, Nat.add_mul]; omega), hz, Nat.add_mul, show j * z + 1 * z + i - z = j * z + i by omega]
    exact ih
theorem flatE_length {α : Type} {enc : α → List Value} {z : Nat} (hz : ∀ a, (enc a).length = z) (L : List α) : (flatE enc L).length = L.length * z := by
  induction L with
  | nil => simp [flatE]
  | cons a L ih =>
    simp only [flatE, List.flatMap_cons, List.length_append, hz, List.length_cons] at ih ⊢
    rw [ih, Nat.add_mul]; omega
/-- a row that is owned, of elements of any size, written out -/
theorem ownZ_shape {w : World} {base : Nat} {e : TypeId} {size : Nat} {v : Value} {n : Nat} {xs : List Value} (h : w.ownsRow base e size v n xs) (hn : 0 < n) :
    ∃ g cap, v = .slice (some ⟨g, 0, none⟩) n cap ∧ base ≤ g ∧ g < w.heap.size ∧ n ≤ cap ∧ cap ≤ maxLen ∧ (∀ j u, xs[j]? = some u → w.cell? ⟨g, j, none⟩ = some u) ∧ ∀ o, w.frozen? ⟨g, o, none⟩ = false := by
  have hc := fun g hg => World.ownsRow.cells h (g := g) hg
  rcases h.2 with ⟨rfl, rfl⟩ | ⟨g, cap, cur, rfl, hbg, hg, hnc, hcm, hcs, htake⟩
  · omega
  · refine ⟨g, cap, rfl, hbg, (Array.getElem?_eq_some_iff.1 hg).1, hnc, hcm, fun j u hj => ?_, fun o => ?_⟩
    · have := hc g rfl j u hj
      by_cases h0 : j = 0
      · subst h0; simpa [Addr.add] using this
      · simpa [Addr.add, h0] using this
    · unfold World.frozen?
      simp only [hg]
      simp
theorem Sl.own {α : Type} {z : Nat} {enc : α → List Value} (hz : ∀ a, (enc a).length = z) {P : Nat → Prop} {w : World} {base : Nat} {e : TypeId} {v : Value} {n : Nat} {L : List α} (h : w.ownsRow base e z v n (flatE enc L)) (hn : L.length = n) (hp : ∀ b, base ≤ b → P b) : Sl z enc P w v L := by
  rcases Nat.eq_zero_or_pos n with h0 | h0
  · rcases h.2 with ⟨rfl, rfl⟩ | ⟨g, cap, cur, rfl, hbg, hg, hnc, hcm, hcs, htake⟩
    · exact ⟨none, 0, 0, rfl, hn, Nat.le_refl _, Nat.zero_le _, .inl rfl⟩
    · exact ⟨_, n, cap, rfl, hn, hnc, hcm, .inl h0⟩
  · obtain ⟨g, cap, rfl, hbg, hg, hnc, hcm, hc, _⟩ := ownZ_shape h h0
    refine ⟨_, n, cap, rfl, hn, hnc, hcm, .inr ⟨g, 0, rfl, hp g hbg, hg, fun j a hj i u hi => ?_⟩⟩
    rw [Nat.zero_add]
    exact hc _ u (flatE_get hz L j a hj i u hi)
theorem ownsRow_belowZ {w w' : World} {base : Nat} {e : TypeId} {size : Nat} {v : Value} {n : Nat} {xs : List Value} (h : w.ownsRow base e size v n xs) (hb : Below w.heap.size w w') : w'.ownsRow base e size v n xs := by
  refine ⟨h.1, ?_⟩
  rcases h.2 with hn | ⟨g, cap, cur, rfl, hbg, hgg, rest⟩
  · exact .inl hn
  · exact .inr ⟨g, cap, cur, rfl, hbg, (hb.block g (Array.getElem?_eq_some_iff.1 hgg).1).trans hgg, rest⟩
theorem ownsRow_baseZ {w : World} {b b' : Nat} {e : TypeId} {size : Nat} {v : Value} {n : Nat} {xs : List Value} (h : w.ownsRow b e size v n xs) (hb : b' ≤ b) : w.ownsRow b' e size v n xs := by
  refine ⟨h.1, ?_⟩
  rcases h.2 with hn | ⟨g, cap, cur, rfl, hbg, rest⟩
  · exact .inl hn
  · exact .inr ⟨g, cap, cur, rfl, by omega, rest⟩
/-- the cells of a new box, for an append of one element -/
theorem newsL (w : World) (vs : List Value) (t : TypeId) : ∀ j u, vs[j]? = some u → (w.alloc (.cells vs.toArray t)).cell? ((⟨w.heap.size, 0, none⟩ : Addr).add j) = some u := by
  intro j u hj
  have e : (⟨w.heap.size, 0, none⟩ : Addr).add j = ⟨w.heap.size, j, none⟩ := by unfold Addr.add; split <;> simp_all
  rw [e, World.cell?_alloc_at _ _ _ _ rfl]
  simpa using hj
theorem below_boxZ {w w1 : World} {o : Obj} (h : Below (w.alloc o).heap.size (w.alloc o) w1) : Below w.heap.size w w1 := ((Below.refl _ _).alloc (Nat.le_refl _) _).trans (h.mono (by simp))
theorem below_upZ {B : Nat} {w w1 w2 : World} (h : Below B w w1) (h1 : Below w1.heap.size w1 w2) (hB : B ≤ w1.heap.size) : Below B w w2 := h.trans (h1.mono hB)
theorem below_drewZ {B : Nat} {a w : World} (h : Below B a w) (n : Nat) : Below B a (w.drewN n) := ⟨h.os, h.tape, h.output, h.size, h.block⟩
/-- a new box on top -/
theorem boxed_cell {w w1 : World} {C : Array Value} {T : TypeId} (hb : Below (w.alloc (.cells C T)).heap.size (w.alloc (.cells C T)) w1) (i : Nat) {v : Value} (hv : C[i]? = some v) : w1.cell? ⟨w.heap.size, i, none⟩ = some v :=
  (hb.cell (p := ⟨w.heap.size, i, none⟩) (by simp)).trans ((World.cell?_alloc_at _ _ _ _ rfl).trans hv)

theorem bal {w w1 : World} (h : Below w.heap.size w w1) (o : Obj) : Below w.heap.size w (w1.alloc o) := h.alloc h.size _
theorem bdr {B : Nat} {w w1 : World} (h : Below B w w1) : Below B w w1.drew := ⟨h.os, h.tape, h.output, h.size, h.block⟩
theorem bup {w w1 w2 : World} (h : Below w.heap.size w w1) (h1 : Below w1.heap.size w1 w2) : Below w.heap.size w w2 := h.trans (h1.mono h.size)
theorem keepB {w w1 : World} (hb : Below w.heap.size w w1) {p : Addr} {v : Value} (h : w.cell? p = some v) : w1.cell? p = some v := (hb.cell (World.block_lt_of_cell? w p h)).trans h
theorem bset {w w1 : World} (h : Below w.heap.size w w1) {p : Addr} (hp : w.heap.size ≤ p.block) (v : Value) : Below w.heap.size w (w1.setCell p v) := h.setCell hp v
theorem bset3 {w w1 : World} (h : Below w.heap.size w w1) {b : Nat} (hp : w.heap.size ≤ b) (v0 v1 v2 : Value) : Below w.heap.size w (((w1.setCell ⟨b, 0, none⟩ v0).setCell ⟨b, 1, none⟩ v1).setCell ⟨b, 2, none⟩ v2) := bset (bset (bset h hp _) hp _) hp _
theorem bset7 {w w1 : World} (h : Below w.heap.size w w1) {b : Nat} (hp : w.heap.size ≤ b) (v0 v1 v2 v3 v4 v5 v6 : Value) : Below w.heap.size w (((((((w1.setCell ⟨b, 0, none⟩ v0).setCell ⟨b, 1, none⟩ v1).setCell ⟨b, 2, none⟩ v2).setCell ⟨b, 3, none⟩ v3).setCell ⟨b, 4, none⟩ v4).setCell ⟨b, 5, none⟩ v5).setCell ⟨b, 6, none⟩ v6) :=
  bset (bset (bset (bset (bset (bset (bset h hp _) hp _) hp _) hp _) hp _) hp _) hp _
theorem keepA {w : World} {o : Obj} {p : Addr} {v : Value} (h : w.cell? p = some v) : (w.alloc o).cell? p = some v := keepB ((Below.refl _ _).alloc (Nat.le_refl _) o) h
theorem brefl {w : World} : Below w.heap.size w w := Below.refl _ _

/-! lists that a loop goes through -/
theorem drop_cons {α : Type} {L : List α} {k : Nat} {a : α} (h : L[k]? = some a) : L.drop k = a :: L.drop (k + 1) := by
  obtain ⟨hk, rfl⟩ := List.getElem?_eq_some_iff.1 h
  exact List.drop_eq_getElem_cons hk
theorem drop_all {α : Type} {L : List α} {k : Nat} (h : L.length ≤ k) : L.drop k = [] := List.drop_of_length_le h
theorem take_snocZ {α : Type} {L : List α} {k : Nat} {a : α} (h : L[k]? = some a) : L.take (k + 1) = L.take k ++ [a] := by
  obtain ⟨hk, rfl⟩ := List.getElem?_eq_some_iff.1 h
  rw [List.take_succ_eq_append_getElem hk]
theorem take_all {α : Type} {L : List α} {k : Nat} (h : L.length ≤ k) : L.take k = L := List.take_of_length_le h

/-! integers -/
def encI (n : Int) : List Value := [.int .i64 n]
theorem encI_len (n : Int) : (encI n).length = 1 := rfl
theorem Sl.int {P : Nat → Prop} {w : World} {ao : Option Addr} {n c k : Nat} {L : List Int} (h : Sl 1 encI P w (.slice ao n c) L) (hk : k < n) :
    ∃ b off x, ao = some ⟨b, off, none⟩ ∧ P b ∧ b < w.heap.size ∧ L[k]? = some x ∧ w.cell? ⟨b, off + k, none⟩ = some (.int .i64 x) := by
  obtain ⟨b, off, a, h1, h2, h3, h4, h5⟩ := h.at_ hk
  exact ⟨b, off, a, h1, h2, h3, h4, by simpa using h5 0 _ rfl⟩
end Go.Proofs.YthjaofgdickkaaaGreat
