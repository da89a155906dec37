/- `append([]T(nil), xs...)`: a copy of a row, inside a region. -/
import Derived.Test.YtenbbmmbpjjjpaaZRegN
import Derived.Laws.AppendOwnNone
namespace Go.Proofs.Ytenbbmmbpjjjpaa
open Go.RowKit
set_option linter.unusedVariables false
theorem run_append_nil {P : Program} {w : World} (t ty e : TypeId) (i : TypeInfo) (c : Nat) (ht : P.underlying t = some (.slice e)) (hi : P.info? e = some i) :
    (Builtin.append_ #[t, t] ty #[.slice none 0 0, .slice none 0 c]).run P w = .ok (.slice none 0 0) w := by
  simp [Builtin.append_, run_underlying ht, sizeOf, typeInfo, hi, Builtin.lenOf, Builtin.firstCells]
theorem wpList_copy_row {P : Program} {w : World} {ops : Array Oper} {rest : List Oper} {o : Oper} {a : Act} {Q : Exit → Act → World → Prop} {α : Type} {z : Nat} {enc : α → List Value} {Pp : Nat → Prop} {L : List α}
    (hz : ∀ a, (enc a).length = z) (hone : ∀ a, ∀ u ∈ enc a, u.oneCell' = true) (hgd : o.guard = none) (x : Operand) (t : TypeId)
    (ho : o.op = .call { callee := .builtin .append, args := #[.const (.slice none 0 0), x], argTypes := #[t, t] })
    (e : TypeId) (i : TypeInfo) (zv : Value) (bytes : Nat) (ht : P.underlying t = some (.slice e)) (hi : P.info? e = some i) (hz0 : i.zero = some zv) (hz1 : i.size = z) (hz2 : i.bytes = bytes) (hzs : zv.cells.size = z) (hsz : 0 < z) (hby : bytes ≤ 1000)
    (v : Value) (hx : a.eval x = v) (hsl : Sl z enc Pp w v L) (hl : L.length ≤ 1000000)
    (h : ∀ v' w', w'.ownsRow w.heap.size e z v' L.length (flatE enc L) → Below w.heap.size w w' → wpList P ops Q rest (a.put o.dst v') w') : wpList P ops Q (o :: rest) a w := by
  obtain ⟨ao, n, c, rfl, hn, hnc, hcm, hk⟩ := hsl
  cases ao with
  | none =>
    have hn0 : n = 0 := by
      rcases hk with hk | ⟨b, off, hk, _⟩
      · exact hk
      · cases hk
    subst hn0
    have hL : L = [] := List.eq_nil_of_length_eq_zero hn
    subst hL
    refine wpList_plain hgd fun K hK => ?_
    have hrun := run_append_nil (P := P) (w := w) t o.type e i c ht hi
    have hs : a.eval (.const (.slice none 0 0)) = .slice none 0 0 := rfl
    unfold Oper.wp
    simp [execOp, ho, resolve, invoke, builtin, hs, hx, hrun, Result.andThen]
    exact hK _ _ (h _ _ (World.ownsRow_nil _ _ _ _) (Below.refl _ _))
  | some ad =>
    have fin : ∀ v' w', w'.ownsRow w.heap.size e z v' (0 + n) ([] ++ flatE enc L) → w.grownBy w' (Value.slice none 0 0).ownBlock → (v' = .slice none 0 0 ↔ (Value.slice none 0 0) = .slice none 0 0 ∧ n = 0) → wpList P ops Q rest (a.put o.dst v') w' := fun v' w' h1 h2 _ => by
      rw [Nat.zero_add, List.nil_append, ← hn] at h1
      exact h v' w' h1 ⟨h2.os, h2.tape, h2.output, h2.size, fun k hk => h2.block k hk (show some k ≠ none from by simp)⟩
    have hfl : (flatE enc L).length = n * z := by rw [flatE_length hz, hn]
    have hmx : n ≤ maxLen := by omega
    have hbn : (0 + n) * bytes ≤ 140737488355328 := by
      have : (0 + n) * bytes ≤ 1000000 * 1000 := Nat.mul_le_mul (by omega) hby
      omega
    have hcells : ∀ j u, (flatE enc L)[j]? = some u → w.cell? (ad.add j) = some u := by
      rcases hk with hk | ⟨b, off, hk, -, -, hc⟩
      · subst hk
        have hL : L = [] := List.eq_nil_of_length_eq_zero hn
        subst hL
        intro j u hj
        simp [flatE] at hj
      · cases hk
        intro j u hj
        rw [add_litZ]
        exact flatE_cells hz L off hc j u hj
    exact wpList_append_own _ hgd _ _ t ho w.heap.size e i zv z bytes ht hi hz0 hz1 hz2 hzs hsz _ 0 [] rfl (World.ownsRow_nil _ _ _ _) ad n c (flatE enc L) hx hfl hcells (oneE hone L) (by omega) hbn (Nat.le_refl _) fin
end Go.Proofs.Ytenbbmmbpjjjpaa
