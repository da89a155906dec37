/- appends of slices to rows of one's own; parts of a slice. -/
import Derived.Test.YthjaofgdickkaaaGreatRefJ
namespace Go.Proofs.YthjaofgdickkaaaGreat
open Go.RowKit
set_option linter.unusedVariables false
set_option linter.unusedSimpArgs false
/-- append(own, s...) -/
theorem run_more {P : Program} {α : Type} {z : Nat} {enc : α → List Value} (hlen : ∀ a, (enc a).length = z) (hone : ∀ a, ∀ u ∈ enc a, u.oneCell' = true) {Q : Nat → Prop} (w : World) (base : Nat) {v : Value} {k : Nat} {xs : List Value} {ao : Option Addr} {n c : Nat} {L : List α} (e : TypeId) (ho : w.ownsRow base e z v k xs) (hS : Sl z enc Q w (.slice ao n c) L)
    (t ty : TypeId) (i : TypeInfo) (zv : Value) (bytes : Nat) (ht : P.underlying t = some (.slice e)) (hi : P.info? e = some i) (hz : i.zero = some zv) (hsize : i.size = z) (hby : i.bytes = bytes) (hzs : zv.cells.size = z) (hsz : 0 < z) (hn : k + n ≤ 1000000) (hbb : bytes ≤ 1000) (hbase : base ≤ w.heap.size) :
    ∃ a' c' w', (Builtin.append_ #[t, t] ty #[v, .slice ao n c]).run P w = .ok (.slice a' (k + n) c') w' ∧ w'.ownsRow base e z (.slice a' (k + n) c') (k + n) (xs ++ flatE enc L) ∧ w.grownBy w' v.ownBlock := by
  obtain ⟨ao', n', c', h1, h2, h3, h4, h5⟩ := hS
  cases h1
  cases ao with
  | none =>
    have h0 : n = 0 := by
      rcases h5 with h | ⟨b, off, h, _⟩
      · exact h
      · cases h
    subst h0
    have hL : L = [] := List.eq_nil_of_length_eq_zero h2
    subst hL
    obtain ⟨a', c', rfl⟩ := own_slice0 ho
    refine ⟨a', c', w, ?_, by simpa [flatE] using ho, ⟨rfl, rfl, rfl, Nat.le_refl _, fun _ _ _ => rfl⟩⟩
    rcases ho.2 with ⟨hv, rfl⟩ | ⟨g, cap, cur, hv, _, _, hnc, _⟩
    · cases hv
      simp [Builtin.append_, run_underlying ht, sizeOf, typeInfo, hi, Builtin.lenOf, Builtin.firstCells]
    · cases hv
      simp [Builtin.append_, run_underlying ht, sizeOf, typeInfo, hi, Builtin.lenOf, Builtin.firstCells, hnc, storeCells]
  | some a =>
    have hsrc : ∀ j u, (flatE enc L)[j]? = some u → w.cell? (a.add j) = some u := by
      rcases h5 with h | ⟨b, off, h, _, hb, hc⟩
      · have hL : L = [] := List.eq_nil_of_length_eq_zero (by omega)
        subst hL
        intro j u hj
        simp [flatE] at hj
      · cases h
        intro j u hj
        rw [add_litZ]
        exact flatE_cells hlen L off hc j u hj
    obtain ⟨v', w', hr, ho', hg, -, -⟩ := run_append_own_at (P := P) w base t ty e i zv z bytes ht hi hz hsize hby hzs hsz v k xs ho a n c (flatE enc L) (by rw [flatE_length hlen, h2]) hsrc (oneE hone L) (by unfold maxLen; omega) (Nat.le_trans (Nat.mul_le_mul hn hbb) (by omega)) hbase
    obtain ⟨a', c', rfl⟩ := own_slice0 ho'
    exact ⟨a', c', w', hr, ho', hg⟩
/-- the first elements of a slice -/
theorem Sl.first {α : Type} {z : Nat} {enc : α → List Value} {P : Nat → Prop} {w : World} {ao : Option Addr} {n c : Nat} {L : List α} (h : Sl z enc P w (.slice ao n c) L) {q : Nat} (hq : q ≤ n) : Sl z enc P w (.slice ao q c) (L.take q) := by
  obtain ⟨ao', n', c', h1, h2, h3, h4, h5⟩ := h
  cases h1
  refine ⟨ao, q, c, rfl, by rw [List.length_take]; omega, by omega, h4, ?_⟩
  rcases h5 with h5 | ⟨b, off, k1, k2, k3, k4⟩
  · exact .inl (by omega)
  · refine .inr ⟨b, off, k1, k2, k3, fun j a hj i u hi => k4 j a ?_ i u hi⟩
    have hjq : j < q := by
      have := (List.getElem?_eq_some_iff.1 hj).1
      rw [List.length_take] at this; omega
    rw [List.getElem?_take_of_lt hjq] at hj
    exact hj
/-- the elements from one on -/
theorem Sl.rest {α : Type} {z : Nat} {enc : α → List Value} {P : Nat → Prop} {w : World} {b off n c : Nat} {L : List α} (h : Sl z enc P w (.slice (some ⟨b, off, none⟩) n c) L) {q : Nat} (hq : q ≤ n) : Sl z enc P w (.slice (some ⟨b, off + q * z, none⟩) (n - q) (c - q)) (L.drop q) := by
  obtain ⟨ao', n', c', h1, h2, h3, h4, h5⟩ := h
  cases h1
  refine ⟨_, n - q, c - q, rfl, by rw [List.length_drop]; omega, by omega, by omega, ?_⟩
  rcases h5 with h5 | ⟨b', off', k1, k2, k3, k4⟩
  · exact .inl (by omega)
  · cases k1
    refine .inr ⟨b, off + q * z, rfl, k2, k3, fun j a hj i u hi => ?_⟩
    rw [List.getElem?_drop] at hj
    have := k4 (q + j) a hj i u hi
    rw [Nat.add_mul] at this
    rw [Nat.add_assoc off]
    exact this
/-- no elements -/
theorem Sl.empty {α : Type} {z : Nat} {enc : α → List Value} {P : Nat → Prop} {w : World} {ao : Option Addr} {n c : Nat} {L : List α} (h : Sl z enc P w (.slice ao n c) L) {q : Nat} (hq : q = n) (d : Nat) (hd : d ≤ maxLen) : Sl z enc P w (.slice ao 0 d) (L.drop q) := by
  have := h.len
  exact ⟨_, 0, d, rfl, by rw [List.length_drop]; omega, by omega, hd, .inl rfl⟩
end Go.Proofs.YthjaofgdickkaaaGreat
