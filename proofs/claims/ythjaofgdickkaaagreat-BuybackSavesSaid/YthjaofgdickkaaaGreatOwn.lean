/- Laws of append, copy and clear on rows that the call owns, elements of any number of cells. -/
import Derived.Test.YthjaofgdickkaaaGreatRow
import Derived.Lib.AppendZerosOnto
import Derived.Lib.Overlaps
import Derived.Laws.Externs
import Derived.Laws.OwnMore
import Derived.Laws.CopyOwn
import Derived.Deep.RegionLaw
namespace Go.Proofs.YthjaofgdickkaaaGreat
open Go.RowKit
set_option linter.unusedVariables false
set_option linter.unusedSimpArgs false

section
variable {P : Program}
theorem run_copy_rowZ (w : World) (dT sT ty elem : TypeId) (g o dLen dCap : Nat) (a : Addr) (sLen sCap : Nat) (cur : Array Value) (t : TypeId) (cs : List Value) (z n : Nat)
    (hu : P.underlying dT = some (.slice elem)) (hs : (P.info? elem).map (·.size) = some z)
    (hg : w.heap[g]? = some (.cells cur t (0, 0))) (hn : Nat.min sLen dLen = n) (hl : cs.length = n * z)
    (hsrc : ∀ j v, cs[j]? = some v → w.cell? (a.add j) = some v) (hfit : o + cs.length ≤ cur.size) (h1 : ∀ v ∈ cs, v.oneCell' = true) :
    (Builtin.copy_ #[dT, sT] ty #[.slice (some ⟨g, o, none⟩) dLen dCap, .slice (some a) sLen sCap]).run P w =
      .ok (goInt n) (w.setRow g (cur.toList.take o ++ cs ++ cur.toList.drop (o + cs.length)).toArray) := by
  have hf := run_firstCells_some (P := P) w z n a sLen sCap cs hl hsrc
  have hst := run_storeCells_at P g o t cs 0 cur w hg (by simpa using hfit) h1
  cases hq : P.info? elem with
  | none => simp [hq] at hs
  | some i =>
    have hi : i.size = z := by simpa [hq] using hs
    simp [Builtin.copy_, run_underlying hu, Builtin.lenOf, sizeOf, typeInfo, hq, hi, hn, hf, hst]
theorem wp_copy_runZ (w : World) {o : Oper} {a : Act} {K : Act → World → Prop} {Q : Exit → Act → World → Prop} (d s : Operand) (t t' : TypeId)
    (ho : o.op = .call { callee := .builtin .copy, args := #[d, s], argTypes := #[t, t'] }) (v u : Value) (hd : a.eval d = v) (hs : a.eval s = u) {v' : Value} {w' : World}
    (hr : (Builtin.copy_ #[t, t'] o.type #[v, u]).run P w = .ok v' w') (h : K (a.put o.dst v') w') : o.wp P a w K Q := by
  unfold Oper.wp execOp
  simp only [ho, resolve, invoke, builtin, Sem.run_bind, Sem.run_pure, Result.andThen_ok, List.map_toArray, List.map_cons, List.map_nil, hd, hs, hr]
  exact h
theorem wpList_copy_runZ (w : World) {ops : Array Oper} {rest : List Oper} {o : Oper} {a : Act} {Q : Exit → Act → World → Prop} (hgd : o.guard = none) (d s : Operand) (t t' : TypeId)
    (ho : o.op = .call { callee := .builtin .copy, args := #[d, s], argTypes := #[t, t'] }) (v u : Value) (hd : a.eval d = v) (hs : a.eval s = u) {v' : Value} {w' : World}
    (hr : (Builtin.copy_ #[t, t'] o.type #[v, u]).run P w = .ok v' w') (h : wpList P ops Q rest (a.put o.dst v') w') : wpList P ops Q (o :: rest) a w :=
  wpList_plain hgd fun _ hK => wp_copy_runZ w d s t t' ho v u hd hs hr (hK _ _ h)
theorem step_copy_runZ {ops : Array Oper} {o : Oper} {a : Act} {w : World} {K : Act → World → Prop} {Q : Exit → Act → World → Prop} {E : Prop}
    (hg : o.guard = none) (d x : Operand) (dT sT : TypeId) (hop : o.op = Op.call { callee := Callee.builtin Builtin.copy, args := #[d, x], argTypes := #[dT, sT] })
    (v u : Value) (hd : a.eval d = v) (hx : a.eval x = u) {v' : Value} {w' : World} (hr : (Builtin.copy_ #[dT, sT] o.type #[v, u]).run P w = .ok v' w') (hK : K (a.put o.dst v') w') :
    if Region.wanted o (yielded ops a.tmps) = true then Oper.wp P o a w K Q else E := by
  have hw : Region.wanted o (yielded ops a.tmps) = true := by simp [Region.wanted, hg]
  rw [if_pos hw]
  unfold Oper.wp
  simp [execOp, hop, resolve, invoke, builtin, hd, hx, hr, Result.andThen]
  exact hK
/-- an append as one step of a region that draws -/
theorem step_append_runZ {ops : Array Oper} {o : Oper} {a : Act} {w : World} {K : Act → World → Prop} {Q : Exit → Act → World → Prop} {E : Prop}
    (hg : o.guard = none) (d x : Operand) (dT sT : TypeId) (hop : o.op = Op.call { callee := Callee.builtin Builtin.append, args := #[d, x], argTypes := #[dT, sT] })
    (v u : Value) (hd : a.eval d = v) (hx : a.eval x = u) {v' : Value} {w' : World} (hr : (Builtin.append_ #[dT, sT] o.type #[v, u]).run P w = .ok v' w') (hK : K (a.put o.dst v') w') :
    if Region.wanted o (yielded ops a.tmps) = true then Oper.wp P o a w K Q else E := by
  have hw : Region.wanted o (yielded ops a.tmps) = true := by simp [Region.wanted, hg]
  rw [if_pos hw]
  unfold Oper.wp
  simp [execOp, hop, resolve, invoke, builtin, hd, hx, hr, Result.andThen]
  exact hK
theorem wpList_clear_runZ (w : World) {ops : Array Oper} {rest : List Oper} {o : Oper} {a : Act} {Q : Exit → Act → World → Prop} (hgd : o.guard = none) (s : Operand) (t : TypeId)
    (ho : o.op = .call { callee := .builtin .clear, args := #[s], argTypes := #[t] }) (v : Value) (hs : a.eval s = v) {v' : Value} {w' : World}
    (hr : (Builtin.clear_ #[t] o.type #[v]).run P w = .ok v' w') (h : wpList P ops Q rest (a.put o.dst v') w') : wpList P ops Q (o :: rest) a w := by
  refine wpList_plain hgd fun _ hK => ?_
  unfold Oper.wp execOp
  simp only [ho, resolve, invoke, builtin, Sem.run_bind, Sem.run_pure, Result.andThen_ok, List.map_toArray, List.map_cons, List.map_nil, hs, hr]
  exact hK _ _ h
theorem run_clear_rowZ (w : World) (t elem ty : TypeId) (i : TypeInfo) (zv : Value) (g o n c : Nat) (cur : Array Value) (tt : TypeId)
    (hu : P.underlying t = some (.slice elem)) (hi : P.info? elem = some i) (hz : i.zero = some zv)
    (hg : w.heap[g]? = some (.cells cur tt (0, 0))) (hfit : o + (Builtin.zeroCells zv.cells n).toList.length ≤ cur.size) (h1 : ∀ v ∈ (Builtin.zeroCells zv.cells n).toList, v.oneCell' = true) :
    (Builtin.clear_ #[t] ty #[.slice (some ⟨g, o, none⟩) n c]).run P w =
      .ok (.tuple #[]) (w.setRow g (cur.toList.take o ++ (Builtin.zeroCells zv.cells n).toList ++ cur.toList.drop (o + (Builtin.zeroCells zv.cells n).toList.length)).toArray) := by
  have hst := run_storeCells_at P g o tt (Builtin.zeroCells zv.cells n).toList 0 cur w hg (by simpa using hfit) h1
  cases n with
  | zero =>
    simp [Builtin.clear_, run_underlying hu, Builtin.zeroCells]
    rw [setRow_self w g cur tt (0, 0) hg]
  | succ n =>
    simp at hst
    simp [Builtin.clear_, run_underlying hu, zeroValue, typeInfo, hi, hz, hst, Result.andThen]
end
theorem heap_setRow {w : World} {g : Nat} {old cs : Array Value} {t : TypeId} (hg : w.heap[g]? = some (.cells old t (0, 0))) : (w.setRow g cs).heap[g]? = some (.cells cs t (0, 0)) := setRow_heap w g old cs t _ hg
theorem grownBy_setRow (w : World) (g : Nat) (cs : Array Value) : w.grownBy (w.setRow g cs) (some g) :=
  ⟨rfl, rfl, rfl, by simp [World.setRow], fun k _ hne => setRow_other w g k cs (by simpa using hne)⟩
theorem grownBy_transZ {a b c : World} {row : Option Nat} (h : a.grownBy b row) (k : b.grownBy c row) : a.grownBy c row :=
  ⟨k.os.trans h.os, k.tape.trans h.tape, k.output.trans h.output, Nat.le_trans h.size k.size, fun i hi hne => (k.block i (Nat.lt_of_lt_of_le hi h.size) hne).trans (h.block i hi hne)⟩
theorem grownBy_new {a b : World} {row : Option Nat} (h : a.heap.size ≤ b.heap.size) (ho : b.os = a.os) (ht : b.tape = a.tape) (hu : b.output = a.output) (hb : ∀ k, k < a.heap.size → some k ≠ row → b.heap[k]? = a.heap[k]?) : a.grownBy b row := ⟨ho, ht, hu, h, hb⟩
/-- a row that is owned, known whole -/
theorem own_whole {w : World} {base : Nat} {e : TypeId} {z : Nat} {v : Value} {n : Nat} {xs : List Value} (h : w.ownsRow base e z v n xs) (hn : 0 < n) :
    ∃ g cap rest, v = .slice (some ⟨g, 0, none⟩) n cap ∧ base ≤ g ∧ w.heap[g]? = some (.cells (xs ++ rest).toArray e (0, 0)) ∧ n ≤ cap ∧ cap ≤ maxLen ∧ xs.length = n * z ∧ (xs ++ rest).length = cap * z := by
  rcases h.2 with ⟨rfl, rfl⟩ | ⟨g, cap, cur, rfl, hbg, hg, hnc, hcm, hcs, htake⟩
  · omega
  · have e : xs ++ cur.toList.drop (n * z) = cur.toList := by rw [← htake]; exact List.take_append_drop _ _
    exact ⟨g, cap, cur.toList.drop (n * z), rfl, hbg, by rw [e]; simpa using hg, hnc, hcm, h.1, by rw [e]; simpa using hcs⟩
theorem own_mk {w : World} {base g cap n z : Nat} {e : TypeId} {xs rest : List Value} (hbg : base ≤ g) (hg : w.heap[g]? = some (.cells (xs ++ rest).toArray e (0, 0))) (hnc : n ≤ cap) (hcm : cap ≤ maxLen) (hx : xs.length = n * z) (hl : (xs ++ rest).length = cap * z) :
    w.ownsRow base e z (.slice (some ⟨g, 0, none⟩) n cap) n xs :=
  ⟨hx, .inr ⟨g, cap, _, rfl, hbg, hg, hnc, hcm, by simpa using hl, by rw [← hx]; exact List.take_left⟩⟩
theorem cell_whole {w : World} {g : Nat} {e : TypeId} {xs : List Value} (hg : w.heap[g]? = some (.cells xs.toArray e (0, 0))) {j : Nat} {u : Value} (hj : xs[j]? = some u) : w.cell? ⟨g, j, none⟩ = some u := by
  rw [cell_of_row w g j _ e (0, 0) hg]
  simpa using hj
theorem add_litZ (g o j : Nat) : (⟨g, o, none⟩ : Addr).add j = ⟨g, o + j, none⟩ := by unfold Addr.add; split <;> simp_all
theorem oneE {α : Type} {enc : α → List Value} (h1 : ∀ a, ∀ u ∈ enc a, u.oneCell' = true) (L : List α) : ∀ u ∈ flatE enc L, u.oneCell' = true := by
  intro u hu
  obtain ⟨a, _, ha⟩ := List.mem_flatMap.1 hu
  exact h1 a u ha
theorem shift_rows (xs1 xs2 rest e : List Value) (p z : Nat) (h1 : xs1.length = p) (he : e.length = z) (hr : z ≤ (xs2 ++ rest).length) :
    (((xs1 ++ xs2 ++ rest).take (p + z) ++ xs2 ++ (xs1 ++ xs2 ++ rest).drop (p + z + xs2.length)).take p ++ e ++ ((xs1 ++ xs2 ++ rest).take (p + z) ++ xs2 ++ (xs1 ++ xs2 ++ rest).drop (p + z + xs2.length)).drop (p + e.length)) = (xs1 ++ (e ++ xs2)) ++ (xs1 ++ xs2 ++ rest).drop (p + z + xs2.length) := by
  subst h1 he
  have e0 : (xs1 ++ xs2 ++ rest).take (xs1.length + e.length) = xs1 ++ (xs2 ++ rest).take e.length := by
    rw [List.append_assoc, List.take_append]; simp
    exact List.take_of_length_le (by omega)
  rw [e0]
  have el : (xs1 ++ (xs2 ++ rest).take e.length).length = xs1.length + e.length := by
    rw [List.length_append, List.length_take, Nat.min_eq_left hr]
  have e1 : ((xs1 ++ (xs2 ++ rest).take e.length) ++ xs2 ++ (xs1 ++ xs2 ++ rest).drop (xs1.length + e.length + xs2.length)).take xs1.length = xs1 := by
    rw [List.append_assoc, List.append_assoc, List.take_left]
  have e2 : ((xs1 ++ (xs2 ++ rest).take e.length) ++ xs2 ++ (xs1 ++ xs2 ++ rest).drop (xs1.length + e.length + xs2.length)).drop (xs1.length + e.length) = xs2 ++ (xs1 ++ xs2 ++ rest).drop (xs1.length + e.length + xs2.length) := by
    rw [List.append_assoc (xs1 ++ _), ← el, List.drop_left]
  rw [e1, e2]; simp
end Go.Proofs.YthjaofgdickkaaaGreat
