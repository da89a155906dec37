/- Buyback: the ranks while they grow; the drawn region of Hold, by what has been carried out. -/
import Derived.Test.YtkdbdncboljfhaaBuyP
import Derived.Maps.AppendAt
namespace Go.Proofs.Ytkdbdncboljfhaa
open Go.RowKit
set_option linter.unusedVariables false
set_option linter.unusedSimpArgs false
theorem cell_heap {w : World} {b i : Nat} {C : Array Value} {T : TypeId} {u : Value} (h : w.heap[b]? = some (.cells C T (0, 0))) (hi : C[i]? = some u) : w.cell? ⟨b, i, none⟩ = some u := by
  rw [cell_of_row w b i _ T (0, 0) h]; exact hi
section
variable {P : Program} {o : Oper} {a : Act} {w : World} {K : Act → World → Prop} {Q : Exit → Act → World → Prop}
theorem wp_append_run (d s : Operand) (t t' : TypeId) (ho : o.op = .call { callee := .builtin .append, args := #[d, s], argTypes := #[t, t'] }) (v u : Value) (hd : a.eval d = v) (hs : a.eval s = u) {v' : Value} {w' : World}
    (hr : (Builtin.append_ #[t, t'] o.type #[v, u]).run P w = .ok v' w') (h : K (a.put o.dst v') w') : o.wp P a w K Q := by
  unfold Oper.wp execOp
  simp only [ho, resolve, invoke, builtin, Sem.run_bind, Sem.run_pure, Result.andThen_ok, List.map_toArray, List.map_cons, List.map_nil, hd, hs, hr]
  exact h
end
theorem own_neT {w : World} {b base z : Nat} {v : Value} {n : Nat} {ys : List Value} {cs : Array Value} {T E : TypeId} (hT : T ≠ E) (hb : w.heap[b]? = some (.cells cs T (0, 0))) (ho : w.ownsRow base E z v n ys) : some b ≠ v.ownBlock := by
  intro e
  rcases ho.2 with ⟨rfl, _⟩ | ⟨g', cap, cur, rfl, hbg, hgc, _⟩
  · cases e
  · simp only [Value.ownBlock, Option.some.injEq] at e
    subst e
    rw [hb] at hgc
    simp only [Option.some.injEq, Obj.cells.injEq] at hgc
    exact hT hgc.2.1
theorem own_ne2 {w : World} {b1 b2 z1 z2 : Nat} {v1 v2 : Value} {n1 n2 : Nat} {y1 y2 : List Value} {T E : TypeId} (hT : T ≠ E) (h1 : w.ownsRow b1 T z1 v1 n1 y1) (h2 : w.ownsRow b2 E z2 v2 n2 y2) {b : Nat} (e1 : v1.ownBlock = some b) : some b ≠ v2.ownBlock := by
  rcases h1.2 with ⟨rfl, _⟩ | ⟨g', cap, cur, rfl, hbg, hgc, _⟩
  · cases e1
  · simp only [Value.ownBlock, Option.some.injEq] at e1
    subst e1
    exact own_neT hT hgc h2
theorem Sl.ownI {w : World} {base : Nat} {v : Value} {L : List Int} (h : w.ownsRow base 3 1 v L.length (flatE encI L)) : Sl 1 encI (fun b => v.ownBlock = some b ∧ base ≤ b) w v L := by
  have h1 : Sl 1 encI (fun b => base ≤ b) w v L := Sl.own encI_len h rfl (fun _ h => h)
  rcases h.2 with ⟨rfl, h0⟩ | ⟨g, cap, cur, rfl, hbg, hg, hnc, hcm, _⟩
  · have : L = [] := List.eq_nil_of_length_eq_zero h0
    subst this; exact Sl.nil
  · obtain ⟨ao, n, c, e1, e2, e3, e4, e5⟩ := h1
    cases e1
    refine ⟨_, _, _, rfl, e2, e3, e4, ?_⟩
    rcases e5 with e5 | ⟨b, off, k1, k2, k3, k4⟩
    · exact .inl e5
    · cases k1
      exact .inr ⟨_, _, rfl, ⟨rfl, k2⟩, k3, k4⟩
theorem own_set {w : World} {R o base z n : Nat} {v u : Value} {xs : List Value} {cs : Array Value} {T E : TypeId} (hT : T ≠ E) (hb : w.heap[R]? = some (.cells cs T (0, 0))) (h : w.ownsRow base E z v n xs) : (w.setCell ⟨R, o, none⟩ u).ownsRow base E z v n xs := by
  have hne := own_neT hT hb h
  refine ⟨h.1, ?_⟩
  rcases h.2 with hn | ⟨g, cap, cur, rfl, hbg, hg, hrest⟩
  · exact .inl hn
  · exact .inr ⟨g, cap, cur, rfl, hbg, (Below.heap_setCell _ _ _ _ (fun e => hne (by simp only at e; rw [← e]; rfl))).trans hg, hrest⟩
theorem grown_new {w a b : World} {row r : Option Nat} (h : w.grownBy a r) (k : a.grownBy b row) (hr : ∀ j, row = some j → w.heap.size ≤ j) : w.grownBy b r :=
  ⟨k.os.trans h.os, k.tape.trans h.tape, k.output.trans h.output, Nat.le_trans h.size k.size, fun i hi hx => (k.block i (Nat.lt_of_lt_of_le hi h.size) (fun e => by have := hr i e.symm; omega)).trans (h.block i hi hx)⟩
theorem newsAwd (w : World) (g : Nat) (hg : g = w.heap.size) (x0 x1 x2 x3 : Int) : ∀ j u, (encAwd ⟨x0, x1, x2, x3⟩)[j]? = some u → (w.alloc (.cells #[.int .i64 x0, .int .i64 x1, .int .i64 x2, .int .i64 x3] 61 (0, 0))).cell? ((⟨g, 0, none⟩ : Addr).add j) = some u := by
  subst hg
  exact newsL w (encAwd ⟨x0, x1, x2, x3⟩) 61
theorem Sl.inRow {α : Type} {z : Nat} {enc : α → List Value} {P : Nat → Prop} {w w' : World} {B : Nat} {v : Value} {L : List α} (h : Sl z enc P w v L) (hg : w.grownBy w' (some B)) (hp : ∀ b, P b → b ≠ B) : Sl z enc P w' v L :=
  h.block hg.size fun b hb hlt => hg.block b hlt (by simpa using hp b hb)
/-- the ranks: the last one is one's own, the others lie elsewhere -/
structure RkSt (w : World) (base : Nat) (ov : Value) (vs : List Value) (u : Value) (Rs : List (List Int)) (r : List Int) : Prop where
  row : w.ownsRow base 55 1 ov (vs.length + 1) (vs ++ [u])
  old : RowsI (fun b => base ≤ b ∧ some b ≠ ov.ownBlock ∧ some b ≠ u.ownBlock) w vs Rs
  last : w.ownsRow base 3 1 u r.length (flatE encI r)
theorem flatV (us : List Value) : flatE encV us = us := by
  unfold flatE encV
  induction us with
  | nil => rfl
  | cons x us ih => simp [List.flatMap_cons, ih]
theorem RkSt.all {w : World} {base : Nat} {ov : Value} {vs : List Value} {u : Value} {Rs : List (List Int)} {r : List Int} (h : RkSt w base ov vs u Rs r) : RowsI (fun b => base ≤ b ∧ some b ≠ ov.ownBlock) w (vs ++ [u]) (Rs ++ [r]) := by
  refine (h.old.mono fun b hb _ => ⟨hb.1, hb.2.1⟩).snoc ?_
  have hs : Sl 1 encI (fun b => u.ownBlock = some b ∧ base ≤ b) w u r := Sl.ownI h.last
  exact hs.mono fun b hb _ => ⟨hb.2, fun e => own_ne2 (by decide) h.last h.row hb.1 e⟩
theorem RkSt.below {w w' : World} {base : Nat} {ov : Value} {vs : List Value} {u : Value} {Rs : List (List Int)} {r : List Int} (h : RkSt w base ov vs u Rs r) (hb : Below w.heap.size w w') : RkSt w' base ov vs u Rs r :=
  ⟨ownsRow_belowZ h.row hb, h.old.below hb, ownsRow_belowZ h.last hb⟩
/-- the ranks with a new one behind, still empty -/
theorem RkSt.fresh {w0 w' : World} {base : Nat} {ov ov' : Value} {us : List Value} {R : List (List Int)} (hR : RowsI (fun b => base ≤ b ∧ some b ≠ ov.ownBlock) w0 us R) (hg : w0.grownBy w' ov.ownBlock) (hown : w'.ownsRow base 55 1 ov' (us.length + 1) (us ++ [.slice none 0 0])) (hloc : ov'.ownBlock = ov.ownBlock ∨ ov'.ownBlock = some w0.heap.size) : RkSt w' base ov' us (.slice none 0 0) R [] :=
  ⟨hown, (hR.app hg hloc (Nat.le_refl _)).mono fun b hb _ => ⟨hb.1, hb.2, by intro e; cases e⟩, World.ownsRow_nil _ _ _ _⟩
/-- a number is appended to the slice in a cell of a row -/
structure D15 (w0 : World) (g q : Nat) (cur : Array Value) (base : Nat) (lv : Value) (xs : List Int) (x : Int) (bs ap st : Bool) (s v : Value) (w' : World) : Prop where
  box : st = false → w'.heap[g]? = some (.cells cur 55 (0, 0))
  pre : ap = false → st = false ∧ Below w0.heap.size w0 w' ∧ (bs = true → ∃ gg, s = .slice (some ⟨gg, 0, none⟩) 1 1 ∧ w'.cell? ⟨gg, 0, none⟩ = some (.int .i64 x))
  app : ap = true → st = false → w0.grownBy w' lv.ownBlock ∧ w'.ownsRow base 3 1 v (xs.length + 1) (flatE encI (xs ++ [x])) ∧ (v.ownBlock = lv.ownBlock ∨ ∃ b, v.ownBlock = some b ∧ w0.heap.size ≤ b)
  fin : st = true → ∃ v', w'.heap[g]? = some (.cells (cur.setIfInBounds q v') 55 (0, 0)) ∧ w'.ownsRow base 3 1 v' (xs.length + 1) (flatE encI (xs ++ [x])) ∧ (v'.ownBlock = lv.ownBlock ∨ ∃ b, v'.ownBlock = some b ∧ w0.heap.size ≤ b) ∧ w0.heap.size ≤ w'.heap.size ∧ w'.os = w0.os ∧ w'.tape = w0.tape ∧ w'.output = w0.output ∧ ∀ b, b < w0.heap.size → b ≠ g → some b ≠ lv.ownBlock → w'.heap[b]? = w0.heap[b]?
section
variable {w0 w' : World} {g q base : Nat} {cur : Array Value} {lv : Value} {xs : List Int} {x : Int} {bs ap st : Bool} {s v : Value}
theorem D15.start (hB : w0.heap[g]? = some (.cells cur 55 (0, 0))) (hw : Below w0.heap.size w0 w') : D15 w0 g q cur base lv xs x false false false s v w' :=
  ⟨fun _ => (hw.block g (Array.getElem?_eq_some_iff.1 hB).1).trans hB, fun _ => ⟨rfl, hw, fun h => (by cases h)⟩, fun h => (by cases h), fun h => (by cases h)⟩
theorem D15.built (h : D15 w0 g q cur base lv xs x false false st s v w') : D15 w0 g q cur base lv xs x true false st (.slice (some ⟨w'.heap.size, 0, none⟩) 1 1) v (w'.alloc (.cells #[.int .i64 x] 3 (0, 0))) := by
  obtain ⟨h1, h2, _⟩ := h.pre rfl
  subst h1
  exact ⟨fun _ => (heap_alloc_old w' _ (Array.getElem?_eq_some_iff.1 (h.box rfl)).1).trans (h.box rfl), fun _ => ⟨rfl, bal h2 _, fun _ => ⟨_, rfl, World.cell?_alloc_at _ _ _ _ rfl⟩⟩, fun h => (by cases h), fun h => (by cases h)⟩
theorem D15.appd (h : D15 w0 g q cur base lv xs x true false st s v w') (ho : w0.ownsRow base 3 1 lv xs.length (flatE encI xs)) (hz : base ≤ w0.heap.size) (hl : xs.length ≤ 1000) (ty : TypeId) :
    ∃ v' w2, (Builtin.append_ #[22, 22] ty #[lv, s]).run Try.prog w' = .ok v' w2 ∧ D15 w0 g q cur base lv xs x true true false s v' w2 := by
  obtain ⟨h1, h2, h3⟩ := h.pre rfl
  obtain ⟨gg, rfl, hg⟩ := h3 rfl
  subst h1
  obtain ⟨i1, hi, hz0, hz1, hz2⟩ := info_parts infoInt
  have hown := ownsRow_belowZ ho h2
  obtain ⟨v', w2, hrun, ho2, hg2, _, hloc⟩ := run_append_own_at (P := Try.prog) w' base 22 ty 3 i1 (.int .i64 0) 1 8 Try.underlying22 hi hz0 hz1 hz2 rfl (by decide) lv xs.length _ hown ⟨gg, 0, none⟩ 1 1 [.int .i64 x] rfl
    (fun j y hj => by
      have : j = 0 := by have := (List.getElem?_eq_some_iff.1 hj).1; simpa using this
      subst this
      simp only [List.getElem?_cons_zero, Option.some.injEq] at hj
      subst hj
      rw [add_litZ]; exact hg) (fun y hy => by simp only [List.mem_singleton] at hy; subst hy; rfl) (by unfold maxLen; omega) (by omega) (by have := h2.size; omega)
  have hcB := h.box rfl
  have hne := own_neT (by decide) hcB hown
  refine ⟨v', w2, hrun, fun _ => (hg2.block g (Array.getElem?_eq_some_iff.1 hcB).1 hne).trans hcB, fun h => (by cases h), fun _ _ => ⟨⟨hg2.os.trans h2.os, hg2.tape.trans h2.tape, hg2.output.trans h2.output, Nat.le_trans h2.size hg2.size, fun b hb hn => (hg2.block b (by have := h2.size; omega) hn).trans (h2.block b hb)⟩, ?_, ?_⟩, fun h => (by cases h)⟩
  · rw [flatE_snoc]; exact ho2
  · rcases hloc with e | e
    · exact .inl e
    · exact .inr ⟨_, e, h2.size⟩
theorem D15.stored (h : D15 w0 g q cur base lv xs x true true false s v w') : D15 w0 g q cur base lv xs x true true true s v (w'.setCell ⟨g, q, none⟩ v) := by
  obtain ⟨h1, h2, h3⟩ := h.app rfl rfl
  have hB := h.box rfl
  have e1 := heap_setCell_same w' g q _ _ v hB
  have hoth : ∀ b, b ≠ g → (w'.setCell ⟨g, q, none⟩ v).heap[b]? = w'.heap[b]? := fun b hb => Below.heap_setCell _ _ _ _ (by simp only; omega)
  refine ⟨fun h => (by cases h), fun h => (by cases h), fun _ h => (by cases h), fun _ => ⟨v, e1, ⟨h2.1, ?_⟩, h3, by have := h1.size; simpa [World.setCell] using this, h1.os, h1.tape, h1.output, fun b hb hR hn => (hoth b hR).trans (h1.block b hb hn)⟩⟩
  have hne := own_neT (by decide) hB h2
  rcases h2.2 with hn | ⟨g', cap, cur', rfl, hbg, hg, hrest⟩
  · exact .inl hn
  · exact .inr ⟨g', cap, cur', rfl, hbg, (hoth g' (fun e => hne (by rw [e]; rfl))).trans hg, hrest⟩
end
/-- the ranks behind that region -/
theorem RkSt.more {w0 w' : World} {base g cap : Nat} {cur : Array Value} {vs : List Value} {u v' : Value} {Rs : List (List Int)} {r : List Int} {x : Int} {q : Nat} (hq : vs.length = q) (h : RkSt w0 base (.slice (some ⟨g, 0, none⟩) (q + 1) cap) vs u Rs r)
    (hc : w0.heap[g]? = some (.cells cur 55 (0, 0))) (h1 : w'.heap[g]? = some (.cells (cur.setIfInBounds q v') 55 (0, 0))) (h2 : w'.ownsRow base 3 1 v' (r.length + 1) (flatE encI (r ++ [x]))) (h3 : v'.ownBlock = u.ownBlock ∨ ∃ b, v'.ownBlock = some b ∧ w0.heap.size ≤ b) (hz : w0.heap.size ≤ w'.heap.size)
    (hf : ∀ b, b < w0.heap.size → b ≠ g → some b ≠ u.ownBlock → w'.heap[b]? = w0.heap[b]?) : RkSt w' base (.slice (some ⟨g, 0, none⟩) (q + 1) cap) vs v' Rs (r ++ [x]) := by
  subst hq
  refine ⟨?_, ⟨h.old.1, fun k y G hy hG => ?_⟩, by rw [List.length_append]; exact h2⟩
  · refine ⟨by simp, .inr ?_⟩
    rcases h.row.2 with ⟨e, _⟩ | ⟨g', cap', cur', e, hbg, hgc, q1, q2, q3, q4⟩
    · cases e
    · cases e
      rw [hc] at hgc
      simp only [Option.some.injEq, Obj.cells.injEq] at hgc
      obtain ⟨rfl, -, -⟩ := hgc
      refine ⟨g, cap, _, rfl, hbg, h1, q1, q2, by simpa using q3, ?_⟩
      rw [Nat.mul_one] at q4 ⊢
      rw [Array.toList_setIfInBounds, List.take_set, q4]
      simp
  · have hs := h.old.2 k y G hy hG
    have hs2 : Sl 1 encI (fun b => (base ≤ b ∧ some b ≠ (Value.slice (some ⟨g, 0, none⟩) (vs.length + 1) cap).ownBlock ∧ some b ≠ u.ownBlock) ∧ b < w0.heap.size) w0 y G := hs.mono fun b hb hlt => ⟨hb, hlt⟩
    refine (hs2.block hz fun b hb hlt => hf b hlt (fun e => hb.1.2.1 (by rw [e]; rfl)) hb.1.2.2).mono fun b hb _ => ⟨hb.1.1, hb.1.2.1, fun e => ?_⟩
    rcases h3 with h3 | ⟨b', h3, hlt⟩
    · rw [h3] at e; exact hb.1.2.2 e
    · rw [h3] at e; cases e; omega
theorem RkSt.cellq {w : World} {base g cap q : Nat} {vs : List Value} {u : Value} {Rs : List (List Int)} {r : List Int} (hq : vs.length = q) (h : RkSt w base (.slice (some ⟨g, 0, none⟩) (q + 1) cap) vs u Rs r) : ∃ cur, w.heap[g]? = some (.cells cur 55 (0, 0)) ∧ cur[q]? = some u ∧ base ≤ g := by
  subst hq
  rcases h.row.2 with ⟨e, _⟩ | ⟨g', cap', cur', e, hbg, hgc, q1, q2, q3, q4⟩
  · cases e
  · cases e
    refine ⟨cur', hgc, ?_, hbg⟩
    rw [Nat.mul_one] at q4
    have : (cur'.toList.take (vs.length + 1))[vs.length]? = some u := by rw [q4, List.getElem?_append_right (Nat.le_refl _), Nat.sub_self]; rfl
    rw [List.getElem?_take_of_lt (by omega)] at this
    simpa using this
theorem RkSt.lit {w : World} {base : Nat} {ra : Option Addr} {rc q : Nat} {vs : List Value} {u : Value} {Rs : List (List Int)} {r : List Int} (h : RkSt w base (.slice ra (q + 1) rc) vs u Rs r) : ∃ g, ra = some ⟨g, 0, none⟩ := by
  rcases h.row.2 with ⟨e, _⟩ | ⟨g', cap', cur', e, _⟩
  · cases e
  · cases e; exact ⟨_, rfl⟩
theorem bdrN {B n : Nat} {w w1 : World} (h : Below B w w1) : Below B w (w1.drewN n) := ⟨h.os, h.tape, h.output, h.size, h.block⟩
/-- the ranks while tenders are taken: none yet, or with a last one -/
def RkAt (w : World) (base : Nat) (ov : Value) (us : List Value) (R : List (List Int)) : Prop :=
  w.ownsRow base 55 1 ov us.length us ∧ RowsI (fun b => base ≤ b ∧ some b ≠ ov.ownBlock) w us R ∧ (us = [] ∨ ∃ vs u Rs r, us = vs ++ [u] ∧ R = Rs ++ [r] ∧ RkSt w base ov vs u Rs r)
theorem RkAt.nil {w : World} {base : Nat} : RkAt w base (.slice none 0 0) [] [] := ⟨World.ownsRow_nil _ _ _ _, RowsI.nil, .inl rfl⟩
theorem RkSt.at_ {w : World} {base : Nat} {ov : Value} {vs : List Value} {u : Value} {Rs : List (List Int)} {r : List Int} (h : RkSt w base ov vs u Rs r) : RkAt w base ov (vs ++ [u]) (Rs ++ [r]) :=
  ⟨by rw [List.length_append]; exact h.row, h.all, .inr ⟨vs, u, Rs, r, rfl, rfl, h⟩⟩
theorem RkAt.below {w w' : World} {base : Nat} {ov : Value} {us : List Value} {R : List (List Int)} (h : RkAt w base ov us R) (hb : Below w.heap.size w w') : RkAt w' base ov us R :=
  ⟨ownsRow_belowZ h.1 hb, h.2.1.below hb, h.2.2.elim .inl fun ⟨vs, u, Rs, r, e1, e2, q⟩ => .inr ⟨vs, u, Rs, r, e1, e2, q.below hb⟩⟩
end Go.Proofs.Ytkdbdncboljfhaa
