/- Auction: the drawn regions of Hold, by what has been carried out. Auction: Hold. Printed by wip/gen/auci.py. -/
import Derived.Test.YtenbbmmbpjjjpaaZL32P
import Derived.Deep.OwnRows
namespace Go.Proofs.Ytenbbmmbpjjjpaa
open Go.RowKit
set_option linter.unusedVariables false
set_option linter.unusedSimpArgs false
theorem heap_at {w : World} {o : Obj} {k : Nat} (h : k = w.heap.size) : (w.alloc o).heap[k]? = some o := by subst h; exact heap_alloc_new w o
theorem made_rep (n : Nat) : (madeCells #[Value.int .i64 0] n).toList = flatE encI (List.replicate n 0) := by
  rw [flatI]
  apply List.ext_getElem?
  intro k
  by_cases hk : k < n
  · simp [madeCells, cI, hk, Nat.mod_one]
  · simp [madeCells, cI, hk]
theorem made_own {w : World} {base n : Nat} (hb : base ≤ w.heap.size) (hn : n ≤ 1000) : (w.alloc (.cells (madeCells #[.int .i64 0] n) 3)).ownsRow base 3 1 (.slice (some ⟨w.heap.size, 0, none⟩) n n) n (flatE encI (List.replicate n 0)) := by
  refine ⟨by rw [flatI]; simp, .inr ⟨w.heap.size, n, madeCells #[.int .i64 0] n, rfl, hb, heap_alloc_new w _, Nat.le_refl _, by unfold maxLen; omega, ?_, ?_⟩⟩
  · have := congrArg List.length (made_rep n)
    rw [flatI] at this
    simpa using this
  · rw [made_rep, flatI]
    exact List.take_of_length_le (by simp)
/-- region 6: the bids in order, the zeros, the box -/
structure E6 (w0 : World) (n : Nat) (S : List Bid) (am le sh : Int) (un : Bool) (so mk bl bx : Bool) (ts tm tb tx : Value) (w' : World) : Prop where
  bel : Below w0.heap.size w0 w'
  fso : so = true → w'.ownsRow w0.heap.size 37 5 ts n (flatE encBid S)
  fmd : mk = true → ∃ g, tm = .slice (some ⟨g, 0, none⟩) n n ∧ w'.ownsRow w0.heap.size 3 1 tm n (flatE encI (List.replicate n 0))
  fbl : bl = true → so = true ∧ mk = true ∧ tb = .agg #[.int .i64 am, .int .i64 le, .int .i64 sh, .bool un, ts, tm]
  fbx : bx = true → bl = true ∧ ∃ B, tx = .pointer (some ⟨B, 0, none⟩) ∧ w'.heap[B]? = some (.cells #[.int .i64 am, .int .i64 le, .int .i64 sh, .bool un, ts, tm] 66 (0, 0))
section
variable {w0 w' w9 : World} {n : Nat} {S : List Bid} {am le sh : Int} {un so mk bl bx : Bool} {ts tm tb tx : Value}
theorem E6.start (hw : Below w0.heap.size w0 w') : E6 w0 n S am le sh un false false false false ts tm tb tx w' :=
  ⟨hw, fun h => (by cases h), fun h => (by cases h), fun h => (by cases h), fun h => (by cases h)⟩
theorem E6.sorted (h : E6 w0 n S am le sh un false mk bl bx ts tm tb tx w') {v : Value} (hb : Below w'.heap.size w' w9) (ho : w9.ownsRow w'.heap.size 37 5 v n (flatE encBid S)) : E6 w0 n S am le sh un true mk bl bx v tm tb tx w9 := by
  have hbl : bl = false := Bool.eq_false_iff.2 fun e => by have := (h.fbl e).1; cases this
  subst hbl
  have hbx : bx = false := Bool.eq_false_iff.2 fun e => by have := (h.fbx e).1; cases this
  subst hbx
  exact ⟨bup h.bel hb, fun _ => ownsRow_baseZ ho h.bel.size, fun hm => by obtain ⟨g, e, o⟩ := h.fmd hm; exact ⟨g, e, ownsRow_belowZ o hb⟩, fun h => (by cases h), fun h => (by cases h)⟩
theorem E6.made (h : E6 w0 n S am le sh un so false bl bx ts tm tb tx w') (hn : n ≤ 1000) : E6 w0 n S am le sh un so true bl bx ts (.slice (some ⟨w'.heap.size, 0, none⟩) n n) tb tx (w'.alloc (.cells (madeCells #[.int .i64 0] n) 3 (0, 0))) := by
  have hbl : bl = false := Bool.eq_false_iff.2 fun e => by have := (h.fbl e).2.1; cases this
  subst hbl
  have hbx : bx = false := Bool.eq_false_iff.2 fun e => by have := (h.fbx e).1; cases this
  subst hbx
  exact ⟨bal h.bel _, fun hs => ownsRow_belowZ (h.fso hs) (bal brefl _), fun _ => ⟨_, rfl, made_own h.bel.size hn⟩, fun h => (by cases h), fun h => (by cases h)⟩
theorem E6.built (h : E6 w0 n S am le sh un true true false bx ts tm tb tx w') : E6 w0 n S am le sh un true true true bx ts tm (.agg #[.int .i64 am, .int .i64 le, .int .i64 sh, .bool un, ts, tm]) tx w' := by
  have hbx : bx = false := Bool.eq_false_iff.2 fun e => by have := (h.fbx e).1; cases this
  subst hbx
  exact ⟨h.bel, h.fso, h.fmd, fun _ => ⟨rfl, rfl, rfl⟩, fun h => (by cases h)⟩
theorem E6.boxed (h : E6 w0 n S am le sh un true true true false ts tm tb tx w') : E6 w0 n S am le sh un true true true true ts tm tb (.pointer (some ⟨w'.heap.size, 0, none⟩)) (w'.alloc (.cells #[.int .i64 am, .int .i64 le, .int .i64 sh, .bool un, ts, tm] 66 (0, 0))) :=
  ⟨bal h.bel _, fun hs => ownsRow_belowZ (h.fso hs) (bal brefl _), fun hm => by obtain ⟨g, e, o⟩ := h.fmd hm; exact ⟨g, e, ownsRow_belowZ o (bal brefl _)⟩, h.fbl, fun _ => ⟨rfl, _, rfl, heap_alloc_new w' _⟩⟩
end
/-- region 8: the places of the free bids, the row of them, what serve gives -/
structure E8 (w0 : World) (n bG : Nat) (S : List Bid) (G : List Int) (vG : Value) (left : Int) (F : List Int) (fr bs sv : Bool) (tf ts tv : Value) (w' : World) : Prop where
  pre : sv = false → Below w0.heap.size w0 w' ∧ (fr = true → Sl 1 encI (fun b => w0.heap.size ≤ b) w' tf F) ∧ (bs = true → ∃ g f, w0.heap.size ≤ g ∧ g < w'.heap.size ∧ ts = .slice (some ⟨g, 0, none⟩) 1 1 ∧ w'.cell? ⟨g, 0, none⟩ = some f ∧ Sl 1 encI (fun b => w0.heap.size ≤ b) w' f F)
  sv : sv = true → tv = .int .i64 (svN left S [F]) ∧ w'.ownsRow bG 3 1 vG n (flatE encI (svG left S G [F])) ∧ w0.grownBy w' vG.ownBlock
section
variable {w0 w' w9 : World} {n bG : Nat} {S : List Bid} {G : List Int} {vG : Value} {left : Int} {F : List Int} {fr bs sv : Bool} {tf ts tv : Value}
theorem E8.start (hw : Below w0.heap.size w0 w') : E8 w0 n bG S G vG left F false false false tf ts tv w' :=
  ⟨fun _ => ⟨hw, fun h => (by cases h), fun h => (by cases h)⟩, fun h => (by cases h)⟩
theorem E8.freed (h : E8 w0 n bG S G vG left F false bs false tf ts tv w') {v : Value} (hb : Below w'.heap.size w' w9) (hv : Sl 1 encI (fun b => w'.heap.size ≤ b) w9 v F) : E8 w0 n bG S G vG left F true bs false v ts tv w9 := by
  obtain ⟨h1, h2, h3⟩ := h.pre rfl
  exact ⟨fun _ => ⟨bup h1 hb, fun _ => hv.mono (fun b hb _ => Nat.le_trans h1.size hb), fun hs => by obtain ⟨g, f, e1, e2, e3, e4, e5⟩ := h3 hs; exact ⟨g, f, e1, by have := hb.size; omega, e3, keepB hb e4, e5.below hb⟩⟩, fun h => (by cases h)⟩
theorem E8.built {a : Option Addr} {m c : Nat} (h : E8 w0 n bG S G vG left F true false false (.slice a m c) ts tv w') : E8 w0 n bG S G vG left F true true false (.slice a m c) (.slice (some ⟨w'.heap.size, 0, none⟩) 1 1) tv (w'.alloc (.cells #[.slice a m c] 22 (0, 0))) := by
  obtain ⟨h1, h2, h3⟩ := h.pre rfl
  exact ⟨fun _ => ⟨bal h1 _, fun _ => (h2 rfl).alloc _, fun _ => ⟨_, _, h1.size, by simp, rfl, World.cell?_alloc_at _ _ _ _ rfl, (h2 rfl).alloc _⟩⟩, fun h => (by cases h)⟩
theorem E8.rows (h : E8 w0 n bG S G vG left F true true false tf ts tv w') : Below w0.heap.size w0 w' ∧ SlsI (fun b => w0.heap.size ≤ b) w' ts [F] := by
  obtain ⟨h1, h2, h3⟩ := h.pre rfl
  obtain ⟨g, f, e1, e2, rfl, e4, e5⟩ := h3 rfl
  refine ⟨h1, [f], ⟨_, 1, 1, rfl, rfl, Nat.le_refl _, by unfold maxLen; omega, .inr ⟨g, 0, rfl, e1, e2, fun j x hj i u hi => ?_⟩⟩, rfl, fun k u G hu hG => ?_⟩
  · have hj0 : j = 0 := by have := (List.getElem?_eq_some_iff.1 hj).1; simpa using this
    have hi0 : i = 0 := by have := (List.getElem?_eq_some_iff.1 hi).1; simpa [encV] using this
    subst hj0 hi0
    simp only [List.getElem?_cons_zero, Option.some.injEq] at hj
    subst hj
    simp only [encV, List.getElem?_cons_zero, Option.some.injEq] at hi
    subst hi
    simpa using e4
  · have hk0 : k = 0 := by have := (List.getElem?_eq_some_iff.1 hu).1; simpa using this
    subst hk0
    simp only [List.getElem?_cons_zero, Option.some.injEq] at hu hG
    subst hu hG
    exact e5
theorem E8.served (h : E8 w0 n bG S G vG left F true true false tf ts tv w') (ho : w9.ownsRow bG 3 1 vG n (flatE encI (svG left S G [F]))) (hg : w'.grownBy w9 vG.ownBlock) : E8 w0 n bG S G vG left F true true true tf ts (.int .i64 (svN left S [F])) w9 := by
  obtain ⟨h1, _⟩ := h.pre rfl
  exact ⟨fun h => (by cases h), fun _ => ⟨rfl, ho, ⟨hg.os.trans h1.os, hg.tape.trans h1.tape, hg.output.trans h1.output, Nat.le_trans h1.size hg.size, fun b hb hn => (hg.block b (by have := h1.size; omega) hn).trans (h1.block b hb)⟩⟩⟩
end
/-- region 16: an award is appended to the awards of the result in its box -/
structure E16 (w0 : World) (R base : Nat) (cut sold : Int) (lv : Value) (xs : List Awd) (x : Awd) (bs ap st : Bool) (ts tv : Value) (w' : World) : Prop where
  box : st = false → w'.heap[R]? = some (.cells #[.int .i64 cut, .int .i64 sold, lv] 32 (0, 0))
  pre : ap = false → st = false ∧ Below w0.heap.size w0 w' ∧ (bs = true → ∃ g, ts = .slice (some ⟨g, 0, none⟩) 1 1 ∧ w'.heap[g]? = some (.cells (encAwd x).toArray 42 (0, 0)))
  app : ap = true → st = false → w0.grownBy w' lv.ownBlock ∧ w'.ownsRow base 42 4 tv (xs.length + 1) (flatE encAwd (xs ++ [x]))
  fin : st = true → ∃ v', w'.heap[R]? = some (.cells #[.int .i64 cut, .int .i64 sold, v'] 32 (0, 0)) ∧ w'.ownsRow base 42 4 v' (xs.length + 1) (flatE encAwd (xs ++ [x])) ∧ w0.heap.size ≤ w'.heap.size ∧ w'.os = w0.os ∧ w'.tape = w0.tape ∧ w'.output = w0.output ∧ ∀ b, b < w0.heap.size → b ≠ R → some b ≠ lv.ownBlock → w'.heap[b]? = w0.heap[b]?
section
variable {w0 w' w9 : World} {R base : Nat} {cut sold : Int} {lv : Value} {xs : List Awd} {x : Awd} {bs ap st : Bool} {ts tv : Value}
theorem E16.start (hB : w0.heap[R]? = some (.cells #[.int .i64 cut, .int .i64 sold, lv] 32 (0, 0))) (hw : Below w0.heap.size w0 w') : E16 w0 R base cut sold lv xs x false false false ts tv w' :=
  ⟨fun _ => (hw.block R (Array.getElem?_eq_some_iff.1 hB).1).trans hB, fun _ => ⟨rfl, hw, fun h => (by cases h)⟩, fun h => (by cases h), fun h => (by cases h)⟩
theorem E16.called (h : E16 w0 R base cut sold lv xs x bs false st ts tv w') (hb : Below w'.heap.size w' w9) : E16 w0 R base cut sold lv xs x bs false st ts tv w9 := by
  obtain ⟨h1, h2, h3⟩ := h.pre rfl
  subst h1
  have hB := h.box rfl
  exact ⟨fun _ => (hb.block R (Array.getElem?_eq_some_iff.1 hB).1).trans hB, fun _ => ⟨rfl, bup h2 hb, fun hs => by obtain ⟨g, e1, e2⟩ := h3 hs; exact ⟨g, e1, (hb.block g (Array.getElem?_eq_some_iff.1 e2).1).trans e2⟩⟩, fun h => (by cases h), fun h => (by cases h)⟩
theorem E16.built (h : E16 w0 R base cut sold lv xs x false false st ts tv w') : E16 w0 R base cut sold lv xs x true false st (.slice (some ⟨w'.heap.size, 0, none⟩) 1 1) tv (w'.alloc (.cells (encAwd x).toArray 42 (0, 0))) := by
  obtain ⟨h1, h2, _⟩ := h.pre rfl
  subst h1
  exact ⟨fun _ => (heap_alloc_old w' _ (Array.getElem?_eq_some_iff.1 (h.box rfl)).1).trans (h.box rfl), fun _ => ⟨rfl, bal h2 _, fun _ => ⟨_, rfl, heap_alloc_new w' _⟩⟩, fun h => (by cases h), fun h => (by cases h)⟩
theorem own_neT {w : World} {b base z : Nat} {v : Value} {n : Nat} {ys : List Value} {cs : Array Value} {T E : TypeId} (hT : T ≠ E) (hb : w.heap[b]? = some (.cells cs T (0, 0))) (ho : w.ownsRow base E z v n ys) : some b ≠ v.ownBlock := by
  intro e
  rcases ho.2 with ⟨rfl, _⟩ | ⟨g', cap, cur, rfl, hbg, hgc, _⟩
  · cases e
  · simp only [Value.ownBlock, Option.some.injEq] at e
    subst e
    rw [hb] at hgc
    simp only [Option.some.injEq, Obj.cells.injEq] at hgc
    exact hT hgc.2.1
theorem E16.appd (h : E16 w0 R base cut sold lv xs x true false st ts tv w') (ho : w0.ownsRow base 42 4 lv xs.length (flatE encAwd xs)) (hz : base ≤ w0.heap.size) (hl : xs.length ≤ 1000) (ty : TypeId) :
    ∃ v' w2, (Builtin.append_ #[30, 30] ty #[lv, ts]).run Try.prog w' = .ok v' w2 ∧ E16 w0 R base cut sold lv xs x true true false ts v' w2 := by
  obtain ⟨h1, h2, h3⟩ := h.pre rfl
  obtain ⟨g, rfl, hg⟩ := h3 rfl
  subst h1
  obtain ⟨i1, hi, hz0, hz1, hz2⟩ := info_parts infoAwd
  have hown := ownsRow_belowZ ho h2
  obtain ⟨v', w2, hrun, ho2, hg2, _, hloc⟩ := run_append_own_at (P := Try.prog) w' base 30 ty 42 i1 (.agg #[.int .i64 0, .int .i64 0, .int .i64 0, .int .i64 0]) 4 32 Try.underlying30 hi hz0 hz1 hz2 rfl (by decide) lv xs.length _ hown ⟨g, 0, none⟩ 1 1 (encAwd x) rfl
    (fun j y hj => by
      rw [add_litZ]
      rw [cell_of_row w' g (0 + j) _ 42 (0, 0) hg]
      simpa using hj) (oneAwd x) (by unfold maxLen; omega) (by omega) (by have := h2.size; omega)
  have hcB := h.box rfl
  have hne := own_neT (by decide) hcB hown
  refine ⟨v', w2, hrun, fun _ => (hg2.block R (Array.getElem?_eq_some_iff.1 hcB).1 hne).trans hcB, fun h => (by cases h), fun _ _ => ⟨⟨hg2.os.trans h2.os, hg2.tape.trans h2.tape, hg2.output.trans h2.output, Nat.le_trans h2.size hg2.size, fun b hb hn => (hg2.block b (by have := h2.size; omega) hn).trans (h2.block b hb)⟩, ?_⟩, fun h => (by cases h)⟩
  rw [flatE_snoc]; exact ho2
theorem E16.stored (h : E16 w0 R base cut sold lv xs x true true false ts tv w') : E16 w0 R base cut sold lv xs x true true true ts tv (w'.setCell ⟨R, 2, none⟩ tv) := by
  obtain ⟨h1, h2⟩ := h.app rfl rfl
  have hB := h.box rfl
  have e1 := heap_setCell_same w' R 2 _ _ tv hB
  have hoth : ∀ b, b ≠ R → (w'.setCell ⟨R, 2, none⟩ tv).heap[b]? = w'.heap[b]? := fun b hb => Below.heap_setCell _ _ _ _ (by simp only; omega)
  refine ⟨fun h => (by cases h), fun h => (by cases h), fun _ h => (by cases h), fun _ => ⟨tv, by rw [e1]; rfl, ⟨h2.1, ?_⟩, by have := h1.size; simpa [World.setCell] using this, h1.os, h1.tape, h1.output, fun b hb hR hn => (hoth b hR).trans (h1.block b hb hn)⟩⟩
  have hne := own_neT (by decide) hB h2
  rcases h2.2 with hn | ⟨g, cap, cur, rfl, hbg, hg, hrest⟩
  · exact .inl hn
  · exact .inr ⟨g, cap, cur, rfl, hbg, (hoth g (fun e => hne (by rw [e]; rfl))).trans hg, hrest⟩
end
theorem Sl.ownZ {α : Type} {z : Nat} {enc : α → List Value} (hz : ∀ a, (enc a).length = z) {w : World} {base n : Nat} {e : TypeId} {v : Value} {L : List α} (h : w.ownsRow base e z v n (flatE enc L)) (hn : L.length = n) : Sl z enc (fun b => v.ownBlock = some b ∧ base ≤ b) w v L := by
  have h1 : Sl z enc (fun b => base ≤ b) w v L := Sl.own hz h hn (fun _ h => h)
  rcases h.2 with ⟨rfl, h0⟩ | ⟨g, cap, cur, rfl, hbg, hg, hnc, hcm, _⟩
  · have : L = [] := List.eq_nil_of_length_eq_zero (by omega)
    subst this; exact Sl.nil
  · obtain ⟨ao, n, c, e1, e2, e3, e4, e5⟩ := h1
    cases e1
    refine ⟨_, _, _, rfl, e2, e3, e4, ?_⟩
    rcases e5 with e5 | ⟨b, off, k1, k2, k3, k4⟩
    · exact .inl e5
    · cases k1
      exact .inr ⟨_, _, rfl, ⟨rfl, k2⟩, k3, k4⟩
theorem own_own_ne {w : World} {b1 b2 z1 z2 n1 n2 : Nat} {v1 v2 : Value} {x1 x2 : List Value} {T E : TypeId} (hT : T ≠ E) (h1 : w.ownsRow b1 T z1 v1 n1 x1) (h2 : w.ownsRow b2 E z2 v2 n2 x2) : ∀ b, v1.ownBlock = some b → some b ≠ v2.ownBlock := by
  intro b hb
  rcases h1.2 with ⟨rfl, _⟩ | ⟨g, cap, cur, rfl, hbg, hg, _⟩
  · cases hb
  · simp only [Value.ownBlock, Option.some.injEq] at hb
    subst hb
    exact own_neT hT hg h2
theorem own_set {w : World} {R o base z n : Nat} {v u : Value} {xs : List Value} {cs : Array Value} {T E : TypeId} (hT : T ≠ E) (hb : w.heap[R]? = some (.cells cs T (0, 0))) (h : w.ownsRow base E z v n xs) : (w.setCell ⟨R, o, none⟩ u).ownsRow base E z v n xs := by
  have hne := own_neT hT hb h
  refine ⟨h.1, ?_⟩
  rcases h.2 with hn | ⟨g, cap, cur, rfl, hbg, hg, hrest⟩
  · exact .inl hn
  · exact .inr ⟨g, cap, cur, rfl, hbg, (Below.heap_setCell _ _ _ _ (fun e => hne (by simp only at e; rw [← e]; rfl))).trans hg, hrest⟩
end Go.Proofs.Ytenbbmmbpjjjpaa
namespace Go.Proofs.Ytenbbmmbpjjjpaa
open Go.RowKit
set_option linter.unusedVariables false
set_option linter.unusedSimpArgs false
set_option maxHeartbeats 16000000 in
set_option maxRecDepth 100000 in
theorem hold_any (P : Nat → Prop) (am le sh : Int) (un : Bool) (v : Value) (L : List Bid) (w : World) (hS : Sl 5 encBid P w v L) (hok : ∀ x ∈ L, BidOk x) (hd : KeysB L) (hl : L.length ≤ 60) (ho : OffOk am le sh) (hpl : (prcT (srB L) le (srB L).length).length ≤ 12) :
    Calls Try.prog 13 #[.agg #[.int .i64 am, .int .i64 le, .int .i64 sh, .bool un], v] w fun e w' => ∃ av, e = .returned (.tuple #[.agg #[.int .i64 (hdC am le sh L), .int .i64 (hdS am le sh L), av], .int .i64 0]) ∧ w'.ownsRow w.heap.size 42 4 av (hdA am le sh un L).length (flatE encAwd (hdA am le sh un L)) ∧ Below w.heap.size w w' := by
  obtain ⟨la, n, lc, rfl, hn, -, -⟩ := hS.shape
  have hn60 : n ≤ 60 := by omega
  have KO := Lib.hid (fun U => offer_any am le sh un U ho)
  have KC := Lib.hid (fun (U : World) (hU : Below w.heap.size w U) => bcheck_any P _ L U (hS.below hU) hok hd hl)
  have KS := Lib.hid (fun (U : World) (hU : Below w.heap.size w U) => bsort_any P _ L U (hS.below hU) (by omega))
  have hSok : ∀ x ∈ srB L, BidOk x := fun x hx => hok x ((srt_mem _ _).1 hx)
  have hSn : (srB L).length = n := by unfold srB; rw [srt_length]; exact hn
  unfold hdC hdS hdA
  obtain ⟨S, hSS⟩ : ∃ S, srB L = S := ⟨_, rfl⟩
  rw [hSS] at KS hSok hSn hpl ⊢
  have ham : ∀ x ∈ S, 1000 ≤ x.a ∧ x.a ≤ 1000000000 := fun x hx => ⟨(hSok x hx).a0, (hSok x hx).a1⟩
  have hprc : ∀ x ∈ S, x.f = false → 1 ≤ x.p ∧ x.p ≤ 200000 := fun x hx hf => (hSok x hx).pc hf
  have hpr0 : ∀ x ∈ S, 0 ≤ x.p ∧ x.p ≤ 200000 := fun x hx => by
    have := hSok x hx
    cases hf : x.f with
    | true => have := this.pf hf; omega
    | false => have := this.pc hf; omega
  have hlots : 1 ≤ am / 1000 ∧ am / 1000 ≤ 1000000 := by have := ho.a0; have := ho.a1; omega
  obtain ⟨lots, hlo⟩ : ∃ x, am / 1000 = x := ⟨_, rfl⟩
  have hsh := ho.s0
  have hsh1 := ho.s1
  obtain ⟨m0, m1⟩ := mul_bd (show 0 ≤ am / 1000 by omega) hlots.2 hsh hsh1
  have hlf0 : 0 ≤ am / 1000 * sh / 100 := Int.ediv_nonneg m0 (by omega)
  have hlf1 : am / 1000 * sh / 100 ≤ am / 1000 := by
    have h1 : am / 1000 * sh ≤ am / 1000 * 100 := Int.mul_le_mul_of_nonneg_left hsh1 (by omega)
    omega
  obtain ⟨lf, hlf⟩ : ∃ x, am / 1000 * sh / 100 = x := ⟨_, rfl⟩
  rw [hlf] at hlf0 hlf1
  rw [hlo] at hlf1 hlots m0 m1
  have hFok := free_ok (S := S) (by omega)
  have hCok := comp_ok (S := S) (le := le) (by omega) hpl
  obtain ⟨F, hF⟩ : ∃ F, frT S S.length = F := ⟨_, rfl⟩
  obtain ⟨C, hC⟩ : ∃ C, compL S le = C := ⟨_, rfl⟩
  rw [hF] at hFok
  rw [hC] at hCok
  have hz0 : ∀ x ∈ List.replicate n (0 : Int), 0 ≤ x ∧ x ≤ 1000000 := fun x hx => by rw [List.mem_replicate] at hx; omega
  have hN := svN_bd ham hFok hlf0 (by omega)
  have hG1 := svG_bd ham hFok hlf0 (by omega) hz0
  obtain ⟨N1, hN1⟩ : ∃ x, svN lf S [F] = x := ⟨_, rfl⟩
  obtain ⟨G1, hGG1⟩ : ∃ x, svG lf S (List.replicate n 0) [F] = x := ⟨_, rfl⟩
  rw [hN1] at hN
  rw [hGG1] at hG1
  have hG1l : G1.length = n := by rw [← hGG1, svG_len]; simp
  have hG2 := svG_bd ham hCok (show 0 ≤ lots - N1 by omega) (by omega) hG1
  obtain ⟨G2, hGG2⟩ : ∃ x, svG (lots - N1) S G1 C = x := ⟨_, rfl⟩
  rw [hGG2] at hG2
  have hG2l : G2.length = n := by rw [← hGG2, svG_len]; exact hG1l
  have ehd : hdG am le sh S = G2 := by
    unfold hdG frN frG
    rw [hlo] at hlf ⊢
    rw [hlf, hF, hC, hSn, hN1, hGG1, hGG2]
  rw [ehd]
  have hgot : GotOk S G2 := ⟨hpr0, hG2⟩
  have HSN := Lib.hid hSn
  have HAM := Lib.hid ham
  have HPRC := Lib.hid hprc
  have HPL := Lib.hid hpl
  have HFO := Lib.hid hFok
  have HCO := Lib.hid hCok
  have HF := Lib.hid hF
  have HCC := Lib.hid hC
  have HN1 := Lib.hid hN1
  have HGG1 := Lib.hid hGG1
  have HGG2 := Lib.hid hGG2
  have HG1L := Lib.hid hG1l
  have HG2L := Lib.hid hG2l
  have HGOT := Lib.hid hgot
  have HG2 := Lib.hid hG2
  have hlsh : lots * sh / 100 = lf := by rw [← hlo]; exact hlf
  have HLF := Lib.hid hlsh
  have hmk := run_make_row' (P := Try.prog) 22 3 (.int .i64 0) 8 Try.underlying22 infoInt rfl .i64 .i64 n (by omega) (by omega)
  have HMK := Lib.hid hmk
  have hdv1 : am.tdiv 1000 = lots := by rw [Int.tdiv_eq_ediv_of_nonneg (by have := ho.a0; omega)]; exact hlo
  have hdv2 : (lots * sh).tdiv 100 = lf := by rw [Int.tdiv_eq_ediv_of_nonneg m0]; exact hlsh
  have hw1 : wrap64 lots = lots := IntWalk.wrap64_in _ (by omega)
  have hw2 : wrap64 (lots * sh) = lots * sh := IntWalk.wrap64_in _ (by omega)
  have hw3 : wrap64 lf = lf := IntWalk.wrap64_in _ (by omega)
  have hw4 : wrap64 (lots - N1) = lots - N1 := IntWalk.wrap64_in _ (by omega)
  have hi1 : IntKind.i64.wrap lots = lots := IntWalk.i64_in _ (by omega)
  have hi2 : IntKind.i64.wrap (lots * sh) = lots * sh := IntWalk.i64_in _ (by omega)
  have hi3 : IntKind.i64.wrap lf = lf := IntWalk.i64_in _ (by omega)
  obtain ⟨hN0, hN9⟩ := hN
  clear hS hok hd hl ho hpl hSok hSn hSS ham hprc hpr0 hlo hlf hFok hCok hF hC hz0 hG1 hN1 hGG1 hG1l hG2 hGG2 hG2l ehd hgot hlsh hmk hsh hsh1 m0 m1 hn
  go_enter Try.func13, Try.ntmps13
  go_wp2_with fail
  refine (KO.out _).mono ?_
  rintro e w1 ⟨rfl, hb1⟩
  have o0 : w1.cell? ⟨w.heap.size, 0, none⟩ = some (.int .i64 am) := (hb1.cell (p := ⟨w.heap.size, 0, none⟩) (by simp; omega)).trans ((World.cell?_alloc_past _ _ _ (by simp)).trans (World.cell?_alloc_at _ _ _ _ rfl))
  have o1 : w1.cell? ⟨w.heap.size, 1, none⟩ = some (.int .i64 le) := (hb1.cell (p := ⟨w.heap.size, 1, none⟩) (by simp; omega)).trans ((World.cell?_alloc_past _ _ _ (by simp)).trans (World.cell?_alloc_at _ _ _ _ rfl))
  have o2 : w1.cell? ⟨w.heap.size, 2, none⟩ = some (.int .i64 sh) := (hb1.cell (p := ⟨w.heap.size, 2, none⟩) (by simp; omega)).trans ((World.cell?_alloc_past _ _ _ (by simp)).trans (World.cell?_alloc_at _ _ _ _ rfl))
  have o3 : w1.cell? ⟨w.heap.size, 3, none⟩ = some (.bool un) := (hb1.cell (p := ⟨w.heap.size, 3, none⟩) (by simp; omega)).trans ((World.cell?_alloc_past _ _ _ (by simp)).trans (World.cell?_alloc_at _ _ _ _ rfl))
  have hR1 : w1.heap[w.heap.size + 1]? = some (.cells #[.int .i64 0, .int .i64 0, .slice none 0 0] 32 (0, 0)) := (hb1.block _ (by simp)).trans (heap_at (by simp))
  have HB1 := Lib.hid (bup (bal (bal brefl _) _) hb1)
  clear hb1
  go_wp2_with fail
  refine (KC.out _ HB1.out).mono ?_
  rintro e w2 ⟨rfl, hb2⟩
  have HB2 := Lib.hid (bup HB1.out hb2)
  have HO := Lib.hid (And.intro (keepB hb2 o0) (And.intro (keepB hb2 o1) (And.intro (keepB hb2 o2) (keepB hb2 o3))))
  have HR2 := Lib.hid ((hb2.block _ (Array.getElem?_eq_some_iff.1 hR1).1).trans hR1)
  have zw2 : w.heap.size + 1 < w2.heap.size := (Array.getElem?_eq_some_iff.1 HR2.out).1
  clear hb2 o0 o1 o2 o3 hR1
  go_upto_region 6 with fail
  refine wp_region_any (by kernel_rfl) ?_
  change wpAny _ _ _ _ _ _ _ (World.drew _)
  refine vf_anyP_inv (J := fun listed a' w' => ∃ t7 t24 t25 t26 t27 t28 t29 t30 t31 : Value, a' = { tmps := #[.agg #[.int .i64 am, .int .i64 le, .int .i64 sh, .bool un], .slice la n lc, .pointer (some ⟨w.heap.size, 0, none⟩), undef, .pointer (some ⟨w.heap.size + 1, 0, none⟩), .int .i64 0, .int .i64 0, t7, undef, undef, undef, undef, undef, undef, .agg #[.int .i64 am, .int .i64 le, .int .i64 sh, .bool un], .bool true, .bool false, undef, .slice la n lc, .int .i64 0, .int .i64 0, .bool false, undef, undef, t24, t25, t26, t27, t28, t29, t30, t31, undef, undef, undef, undef, undef, undef, undef, undef, undef, undef, undef, undef, undef, undef, undef, undef, undef, undef, undef, undef, undef, undef, undef, undef, undef, undef, undef, undef, undef, undef, undef, undef, undef, undef, undef, undef, undef, undef, undef, undef, undef, undef, undef, undef, undef, undef, undef, undef, undef, undef, undef, undef, undef, undef, undef, undef, undef, undef, undef, undef, undef, undef, undef, undef], defers := [] } ∧ listed.size = 9 ∧ (listed.getD 0 false = true → t24 = .agg #[.int .i64 am, .int .i64 le, .int .i64 sh, .bool un]) ∧ (listed.getD 1 false = true → t25 = .slice la n lc) ∧ (listed.getD 3 false = true → t27 = .slice la n lc) ∧ (listed.getD 4 false = true → t28 = .int .i64 (n : Int)) ∧ (listed.getD 2 false = true → listed.getD 1 false = true) ∧ (listed.getD 4 false = true → listed.getD 3 false = true) ∧ (listed.getD 5 false = true → listed.getD 4 false = true) ∧ (listed.getD 6 false = true → listed.getD 0 false = true ∧ listed.getD 2 false = true ∧ listed.getD 5 false = true) ∧ (listed.getD 7 false = true → listed.getD 6 false = true) ∧ (listed.getD 8 false = true → listed.getD 7 false = true) ∧ (E6 w2 n S am le sh un (listed.getD 2 false) (listed.getD 5 false) (listed.getD 6 false) (listed.getD 7 false) t26 t29 t30 t31 w' ∧ ((listed.getD 8 false) = true → t7 = t31))) ?step ?fin _ _ _ _ ⟨_, _, _, _, _, _, _, _, _, rfl, rfl, fun h => by simp at h, fun h => by simp at h, fun h => by simp at h, fun h => by simp at h, fun h => by simp at h, fun h => by simp at h, fun h => by simp at h, fun h => by simp at h, fun h => by simp at h, fun h => by simp at h, ⟨E6.start (bdr brefl), fun h => by cases h⟩⟩ (by decide)
  case step =>
    rintro listed a' w' ⟨t7, t24, t25, t26, t27, t28, t29, t30, t31, rfl, hsz, f0, f1, f3, f4, o2, o4, o5, o6, o7, o8, hvb⟩ i hi K hK
    obtain ⟨hni, o, ho, hdep⟩ := mem_ready.1 hi
    have hin : i < 9 := (Array.getElem?_eq_some_iff.1 ho).1
    have hself := vf_listed_self hni
    have hno := vf_listed_no hni
    rcases (show i = 0 ∨ i = 1 ∨ i = 2 ∨ i = 3 ∨ i = 4 ∨ i = 5 ∨ i = 6 ∨ i = 7 ∨ i = 8 by omega) with rfl | rfl | rfl | rfl | rfl | rfl | rfl | rfl | rfl
    · injection ho with ho
      subst ho
      have g2 : (listed.setIfInBounds 0 true).getD 2 false = listed.getD 2 false := getD_set_ne _ (by decide)
      have g5 : (listed.setIfInBounds 0 true).getD 5 false = listed.getD 5 false := getD_set_ne _ (by decide)
      have g6 : (listed.setIfInBounds 0 true).getD 6 false = listed.getD 6 false := getD_set_ne _ (by decide)
      have g7 : (listed.setIfInBounds 0 true).getD 7 false = listed.getD 7 false := getD_set_ne _ (by decide)
      have g8 : (listed.setIfInBounds 0 true).getD 8 false = listed.getD 8 false := getD_set_ne _ (by decide)
      obtain ⟨ho0, ho1, ho2, ho3⟩ := HO.out
      have ho0 := keepB hvb.1.bel ho0
      have ho1 := keepB hvb.1.bel ho1
      have ho2 := keepB hvb.1.bel ho2
      have ho3 := keepB hvb.1.bel ho3
      have HVB := Lib.hid hvb
      clear hi hdep hvb
      refine vf_wpOpP_of rfl rfl ?_
      go_simp
      exact hK _ _ ⟨_, (.agg #[.int .i64 am, .int .i64 le, .int .i64 sh, .bool un]), _, _, _, _, _, _, _, rfl, by simpa using hsz, fun _ => rfl, fun h => by first | exact f1 (vf_listed_ne (by decide) h) | rfl, fun h => by first | exact f3 (vf_listed_ne (by decide) h) | rfl, fun h => by first | exact f4 (vf_listed_ne (by decide) h) | rfl, fun h => vf_listed_keep (o2 (vf_listed_ne (by decide) h)), fun h => vf_listed_keep (o4 (vf_listed_ne (by decide) h)), fun h => vf_listed_keep (o5 (vf_listed_ne (by decide) h)), fun h => by have q := o6 (vf_listed_ne (by decide) h); exact ⟨vf_listed_keep q.1, vf_listed_keep q.2.1, vf_listed_keep q.2.2⟩, fun h => vf_listed_keep (o7 (vf_listed_ne (by decide) h)), fun h => vf_listed_keep (o8 (vf_listed_ne (by decide) h)), by rw [g2, g5, g6, g7, g8]; exact HVB.out⟩
    · injection ho with ho
      subst ho
      have g2 : (listed.setIfInBounds 1 true).getD 2 false = listed.getD 2 false := getD_set_ne _ (by decide)
      have g5 : (listed.setIfInBounds 1 true).getD 5 false = listed.getD 5 false := getD_set_ne _ (by decide)
      have g6 : (listed.setIfInBounds 1 true).getD 6 false = listed.getD 6 false := getD_set_ne _ (by decide)
      have g7 : (listed.setIfInBounds 1 true).getD 7 false = listed.getD 7 false := getD_set_ne _ (by decide)
      have g8 : (listed.setIfInBounds 1 true).getD 8 false = listed.getD 8 false := getD_set_ne _ (by decide)
      have HVB := Lib.hid hvb
      clear hi hdep hvb
      refine vf_wpOpP_of rfl rfl ?_
      go_simp
      exact hK _ _ ⟨_, _, (.slice la n lc), _, _, _, _, _, _, rfl, by simpa using hsz, fun h => by first | exact f0 (vf_listed_ne (by decide) h) | rfl, fun _ => rfl, fun h => by first | exact f3 (vf_listed_ne (by decide) h) | rfl, fun h => by first | exact f4 (vf_listed_ne (by decide) h) | rfl, fun h => vf_listed_keep (o2 (vf_listed_ne (by decide) h)), fun h => vf_listed_keep (o4 (vf_listed_ne (by decide) h)), fun h => vf_listed_keep (o5 (vf_listed_ne (by decide) h)), fun h => by have q := o6 (vf_listed_ne (by decide) h); exact ⟨vf_listed_keep q.1, vf_listed_keep q.2.1, vf_listed_keep q.2.2⟩, fun h => vf_listed_keep (o7 (vf_listed_ne (by decide) h)), fun h => vf_listed_keep (o8 (vf_listed_ne (by decide) h)), by rw [g2, g5, g6, g7, g8]; exact HVB.out⟩
    · injection ho with ho
      subst ho
      have d1 := hdep ⟨1, .data⟩ (by simp) rfl
      have g2 : (listed.setIfInBounds 2 true).getD 2 false = true := hself
      have g5 : (listed.setIfInBounds 2 true).getD 5 false = listed.getD 5 false := getD_set_ne _ (by decide)
      have g6 : (listed.setIfInBounds 2 true).getD 6 false = listed.getD 6 false := getD_set_ne _ (by decide)
      have g7 : (listed.setIfInBounds 2 true).getD 7 false = listed.getD 7 false := getD_set_ne _ (by decide)
      have g8 : (listed.setIfInBounds 2 true).getD 8 false = listed.getD 8 false := getD_set_ne _ (by decide)
      obtain rfl := f1 d1
      rw [hno] at hvb
      have HVB := Lib.hid hvb
      clear hi hdep hvb
      refine vf_wpOpP_of rfl rfl ?_
      go_simp
      refine (KS.out _ (bup HB2.out HVB.out.1.bel)).mono ?_
      rintro e w9 ⟨v9, rfl, ho9, hb9⟩
      exact hK _ _ ⟨_, _, _, (v9), _, _, _, _, _, rfl, by simpa using hsz, fun h => by first | exact f0 (vf_listed_ne (by decide) h) | rfl, fun h => by first | exact f1 (vf_listed_ne (by decide) h) | rfl, fun h => by first | exact f3 (vf_listed_ne (by decide) h) | rfl, fun h => by first | exact f4 (vf_listed_ne (by decide) h) | rfl, fun _ => vf_listed_keep d1, fun h => vf_listed_keep (o4 (vf_listed_ne (by decide) h)), fun h => vf_listed_keep (o5 (vf_listed_ne (by decide) h)), fun h => by have q := o6 (vf_listed_ne (by decide) h); exact ⟨vf_listed_keep q.1, vf_listed_keep q.2.1, vf_listed_keep q.2.2⟩, fun h => vf_listed_keep (o7 (vf_listed_ne (by decide) h)), fun h => vf_listed_keep (o8 (vf_listed_ne (by decide) h)), by rw [g2, g5, g6, g7, g8]; exact ⟨HVB.out.1.sorted hb9 (by rw [← HSN.out]; exact ho9), HVB.out.2⟩⟩
    · injection ho with ho
      subst ho
      have g2 : (listed.setIfInBounds 3 true).getD 2 false = listed.getD 2 false := getD_set_ne _ (by decide)
      have g5 : (listed.setIfInBounds 3 true).getD 5 false = listed.getD 5 false := getD_set_ne _ (by decide)
      have g6 : (listed.setIfInBounds 3 true).getD 6 false = listed.getD 6 false := getD_set_ne _ (by decide)
      have g7 : (listed.setIfInBounds 3 true).getD 7 false = listed.getD 7 false := getD_set_ne _ (by decide)
      have g8 : (listed.setIfInBounds 3 true).getD 8 false = listed.getD 8 false := getD_set_ne _ (by decide)
      have HVB := Lib.hid hvb
      clear hi hdep hvb
      refine vf_wpOpP_of rfl rfl ?_
      go_simp
      exact hK _ _ ⟨_, _, _, _, (.slice la n lc), _, _, _, _, rfl, by simpa using hsz, fun h => by first | exact f0 (vf_listed_ne (by decide) h) | rfl, fun h => by first | exact f1 (vf_listed_ne (by decide) h) | rfl, fun _ => rfl, fun h => by first | exact f4 (vf_listed_ne (by decide) h) | rfl, fun h => vf_listed_keep (o2 (vf_listed_ne (by decide) h)), fun h => vf_listed_keep (o4 (vf_listed_ne (by decide) h)), fun h => vf_listed_keep (o5 (vf_listed_ne (by decide) h)), fun h => by have q := o6 (vf_listed_ne (by decide) h); exact ⟨vf_listed_keep q.1, vf_listed_keep q.2.1, vf_listed_keep q.2.2⟩, fun h => vf_listed_keep (o7 (vf_listed_ne (by decide) h)), fun h => vf_listed_keep (o8 (vf_listed_ne (by decide) h)), by rw [g2, g5, g6, g7, g8]; exact HVB.out⟩
    · injection ho with ho
      subst ho
      have d3 := hdep ⟨3, .data⟩ (by simp) rfl
      have g2 : (listed.setIfInBounds 4 true).getD 2 false = listed.getD 2 false := getD_set_ne _ (by decide)
      have g5 : (listed.setIfInBounds 4 true).getD 5 false = listed.getD 5 false := getD_set_ne _ (by decide)
      have g6 : (listed.setIfInBounds 4 true).getD 6 false = listed.getD 6 false := getD_set_ne _ (by decide)
      have g7 : (listed.setIfInBounds 4 true).getD 7 false = listed.getD 7 false := getD_set_ne _ (by decide)
      have g8 : (listed.setIfInBounds 4 true).getD 8 false = listed.getD 8 false := getD_set_ne _ (by decide)
      obtain rfl := f3 d3
      have HVB := Lib.hid hvb
      clear hi hdep hvb
      refine vf_wpOpP_of rfl rfl ?_
      go_simp
      exact hK _ _ ⟨_, _, _, _, _, (.int .i64 (n : Int)), _, _, _, rfl, by simpa using hsz, fun h => by first | exact f0 (vf_listed_ne (by decide) h) | rfl, fun h => by first | exact f1 (vf_listed_ne (by decide) h) | rfl, fun h => by first | exact f3 (vf_listed_ne (by decide) h) | rfl, fun _ => rfl, fun h => vf_listed_keep (o2 (vf_listed_ne (by decide) h)), fun _ => vf_listed_keep d3, fun h => vf_listed_keep (o5 (vf_listed_ne (by decide) h)), fun h => by have q := o6 (vf_listed_ne (by decide) h); exact ⟨vf_listed_keep q.1, vf_listed_keep q.2.1, vf_listed_keep q.2.2⟩, fun h => vf_listed_keep (o7 (vf_listed_ne (by decide) h)), fun h => vf_listed_keep (o8 (vf_listed_ne (by decide) h)), by rw [g2, g5, g6, g7, g8]; exact HVB.out⟩
    · injection ho with ho
      subst ho
      have d4 := hdep ⟨4, .data⟩ (by simp) rfl
      have g2 : (listed.setIfInBounds 5 true).getD 2 false = listed.getD 2 false := getD_set_ne _ (by decide)
      have g5 : (listed.setIfInBounds 5 true).getD 5 false = true := hself
      have g6 : (listed.setIfInBounds 5 true).getD 6 false = listed.getD 6 false := getD_set_ne _ (by decide)
      have g7 : (listed.setIfInBounds 5 true).getD 7 false = listed.getD 7 false := getD_set_ne _ (by decide)
      have g8 : (listed.setIfInBounds 5 true).getD 8 false = listed.getD 8 false := getD_set_ne _ (by decide)
      obtain rfl := f4 d4
      rw [hno] at hvb
      have hmk := HMK.out
      have HVB := Lib.hid hvb
      clear hi hdep hvb
      refine vf_wpOpP_of rfl rfl ?_
      go_simp
      exact hK _ _ ⟨_, _, _, _, _, _, _, _, _, rfl, by simpa using hsz, fun h => by first | exact f0 (vf_listed_ne (by decide) h) | rfl, fun h => by first | exact f1 (vf_listed_ne (by decide) h) | rfl, fun h => by first | exact f3 (vf_listed_ne (by decide) h) | rfl, fun h => by first | exact f4 (vf_listed_ne (by decide) h) | rfl, fun h => vf_listed_keep (o2 (vf_listed_ne (by decide) h)), fun h => vf_listed_keep (o4 (vf_listed_ne (by decide) h)), fun _ => vf_listed_keep d4, fun h => by have q := o6 (vf_listed_ne (by decide) h); exact ⟨vf_listed_keep q.1, vf_listed_keep q.2.1, vf_listed_keep q.2.2⟩, fun h => vf_listed_keep (o7 (vf_listed_ne (by decide) h)), fun h => vf_listed_keep (o8 (vf_listed_ne (by decide) h)), by rw [g2, g5, g6, g7, g8]; exact ⟨HVB.out.1.made (by omega), HVB.out.2⟩⟩
    · injection ho with ho
      subst ho
      have d0 := hdep ⟨0, .data⟩ (by simp) rfl
      have d2 := hdep ⟨2, .data⟩ (by simp) rfl
      have d5 := hdep ⟨5, .data⟩ (by simp) rfl
      have g2 : (listed.setIfInBounds 6 true).getD 2 false = listed.getD 2 false := getD_set_ne _ (by decide)
      have g5 : (listed.setIfInBounds 6 true).getD 5 false = listed.getD 5 false := getD_set_ne _ (by decide)
      have g6 : (listed.setIfInBounds 6 true).getD 6 false = true := hself
      have g7 : (listed.setIfInBounds 6 true).getD 7 false = listed.getD 7 false := getD_set_ne _ (by decide)
      have g8 : (listed.setIfInBounds 6 true).getD 8 false = listed.getD 8 false := getD_set_ne _ (by decide)
      obtain rfl := f0 d0
      rw [d2, d5, hno] at hvb
      obtain ⟨sa, sc, rfl⟩ := own_sl (hvb.1.fso rfl)
      obtain ⟨gm, rfl, -⟩ := hvb.1.fmd rfl
      have HVB := Lib.hid hvb
      clear hi hdep hvb
      refine vf_wpOpP_of rfl rfl ?_
      go_simp
      exact hK _ _ ⟨_, _, _, _, _, _, _, _, _, rfl, by simpa using hsz, fun h => by first | exact f0 (vf_listed_ne (by decide) h) | rfl, fun h => by first | exact f1 (vf_listed_ne (by decide) h) | rfl, fun h => by first | exact f3 (vf_listed_ne (by decide) h) | rfl, fun h => by first | exact f4 (vf_listed_ne (by decide) h) | rfl, fun h => vf_listed_keep (o2 (vf_listed_ne (by decide) h)), fun h => vf_listed_keep (o4 (vf_listed_ne (by decide) h)), fun h => vf_listed_keep (o5 (vf_listed_ne (by decide) h)), fun _ => ⟨vf_listed_keep d0, vf_listed_keep d2, vf_listed_keep d5⟩, fun h => vf_listed_keep (o7 (vf_listed_ne (by decide) h)), fun h => vf_listed_keep (o8 (vf_listed_ne (by decide) h)), by rw [g2, g5, g6, g7, g8, d2, d5]; exact ⟨HVB.out.1.built, HVB.out.2⟩⟩
    · injection ho with ho
      subst ho
      have d6 := hdep ⟨6, .data⟩ (by simp) rfl
      have g2 : (listed.setIfInBounds 7 true).getD 2 false = listed.getD 2 false := getD_set_ne _ (by decide)
      have g5 : (listed.setIfInBounds 7 true).getD 5 false = listed.getD 5 false := getD_set_ne _ (by decide)
      have g6 : (listed.setIfInBounds 7 true).getD 6 false = listed.getD 6 false := getD_set_ne _ (by decide)
      have g7 : (listed.setIfInBounds 7 true).getD 7 false = true := hself
      have g8 : (listed.setIfInBounds 7 true).getD 8 false = listed.getD 8 false := getD_set_ne _ (by decide)
      have n8 : listed.getD 8 false = false := by
        cases h : listed.getD 8 false with
        | false => rfl
        | true => have q := (o8 h); rw [hno] at q; cases q
      have d2 := (o6 d6).2.1
      have d5 := (o6 d6).2.2
      rw [n8, d6, d2, d5, hno] at hvb
      obtain ⟨_, _, rfl⟩ := hvb.1.fbl rfl
      obtain ⟨sa, sc, rfl⟩ := own_sl (hvb.1.fso rfl)
      obtain ⟨gm, rfl, -⟩ := hvb.1.fmd rfl
      have HVB := Lib.hid hvb
      clear hi hdep hvb
      refine vf_wpOpP_of rfl rfl ?_
      go_simp
      exact hK _ _ ⟨_, _, _, _, _, _, _, _, _, rfl, by simpa using hsz, fun h => by first | exact f0 (vf_listed_ne (by decide) h) | rfl, fun h => by first | exact f1 (vf_listed_ne (by decide) h) | rfl, fun h => by first | exact f3 (vf_listed_ne (by decide) h) | rfl, fun h => by first | exact f4 (vf_listed_ne (by decide) h) | rfl, fun h => vf_listed_keep (o2 (vf_listed_ne (by decide) h)), fun h => vf_listed_keep (o4 (vf_listed_ne (by decide) h)), fun h => vf_listed_keep (o5 (vf_listed_ne (by decide) h)), fun h => by have q := o6 (vf_listed_ne (by decide) h); exact ⟨vf_listed_keep q.1, vf_listed_keep q.2.1, vf_listed_keep q.2.2⟩, fun _ => vf_listed_keep d6, fun h => vf_listed_keep (o8 (vf_listed_ne (by decide) h)), by rw [g2, g5, g6, g7, g8, n8, d6, d2, d5]; exact ⟨HVB.out.1.boxed, fun h => by cases h⟩⟩
    · injection ho with ho
      subst ho
      have d7 := hdep ⟨7, .data⟩ (by simp) rfl
      have g2 : (listed.setIfInBounds 8 true).getD 2 false = listed.getD 2 false := getD_set_ne _ (by decide)
      have g5 : (listed.setIfInBounds 8 true).getD 5 false = listed.getD 5 false := getD_set_ne _ (by decide)
      have g6 : (listed.setIfInBounds 8 true).getD 6 false = listed.getD 6 false := getD_set_ne _ (by decide)
      have g7 : (listed.setIfInBounds 8 true).getD 7 false = listed.getD 7 false := getD_set_ne _ (by decide)
      have g8 : (listed.setIfInBounds 8 true).getD 8 false = true := hself
      rw [d7, hno] at hvb
      have HVB := Lib.hid hvb
      clear hi hdep hvb
      refine vf_wpOpP_of rfl rfl ?_
      go_simp
      exact hK _ _ ⟨_, _, _, _, _, _, _, _, _, rfl, by simpa using hsz, fun h => by first | exact f0 (vf_listed_ne (by decide) h) | rfl, fun h => by first | exact f1 (vf_listed_ne (by decide) h) | rfl, fun h => by first | exact f3 (vf_listed_ne (by decide) h) | rfl, fun h => by first | exact f4 (vf_listed_ne (by decide) h) | rfl, fun h => vf_listed_keep (o2 (vf_listed_ne (by decide) h)), fun h => vf_listed_keep (o4 (vf_listed_ne (by decide) h)), fun h => vf_listed_keep (o5 (vf_listed_ne (by decide) h)), fun h => by have q := o6 (vf_listed_ne (by decide) h); exact ⟨vf_listed_keep q.1, vf_listed_keep q.2.1, vf_listed_keep q.2.2⟩, fun h => vf_listed_keep (o7 (vf_listed_ne (by decide) h)), fun _ => vf_listed_keep d7, by rw [g2, g5, g6, g7, g8, d7]; exact ⟨HVB.out.1, fun _ => rfl⟩⟩
  case fin =>
    rintro listed a' w' ⟨t7, t24, t25, t26, t27, t28, t29, t30, t31, rfl, hsz, f0, f1, f3, f4, o2, o4, o5, o6, o7, o8, hvb⟩ hr
    have hfull := vf_ready_full hsz hr (by kernel_rfl)
    obtain rfl := f0 (hfull 0 (by decide))
    obtain rfl := f1 (hfull 1 (by decide))
    obtain rfl := f3 (hfull 3 (by decide))
    obtain rfl := f4 (hfull 4 (by decide))
    rw [hfull 2 (by decide), hfull 5 (by decide), hfull 6 (by decide), hfull 7 (by decide), hfull 8 (by decide)] at hvb
    clear o2 o4 o5 o6 o7 o8 hfull hr hsz
    obtain ⟨hE, h7⟩ := hvb
    obtain rfl := h7 rfl
    obtain ⟨-, B, rfl, hBx⟩ := hE.fbx rfl
    have hs6 := hE.fso rfl
    obtain ⟨gG, rfl, hg6⟩ := hE.fmd rfl
    obtain ⟨sa, sc, rfl⟩ := own_sl hs6
    obtain ⟨w6, hw6⟩ : ∃ u : World, u = w' := ⟨w', rfl⟩
    subst hw6
    have hne6 := own_own_ne (by decide) hs6 hg6
    have HSL6 := Lib.hid ((Sl.ownZ encBid_len hs6 HSN.out).mono (Q := fun b => some b ≠ (Value.slice (some ⟨gG, 0, none⟩) n n).ownBlock) (fun b hb _ => hne6 b hb.1))
    have HGO6 := Lib.hid hg6
    have HBX6 := Lib.hid hBx
    have HB6 := Lib.hid hE.bel
    have HBW6 := Lib.hid (bup HB2.out hE.bel)
    have HSB6 := Lib.hid (own_neT (by decide) hBx hg6)
    have HO6 := Lib.hid (And.intro (keepB hE.bel HO.out.1) (keepB hE.bel HO.out.2.2.1))
    have HR6 := Lib.hid ((hE.bel.block _ (Array.getElem?_eq_some_iff.1 HR2.out).1).trans HR2.out)
    have z6 : w2.heap.size ≤ w6.heap.size := hE.bel.size
    have c60 := HO6.out.1
    clear hE hs6 hg6 hBx h7 hne6
    have hsale6 : SaleIn (fun _ => True) w6 B am le sh un (.slice sa n sc) (.slice (some ⟨gG, 0, none⟩) n n) S (List.replicate n 0) := ⟨cell_heap HBX6.out rfl, cell_heap HBX6.out rfl, cell_heap HBX6.out rfl, cell_heap HBX6.out rfl, cell_heap HBX6.out rfl, cell_heap HBX6.out rfl, HSL6.out.mono (fun _ _ _ => trivial), Sl.own encI_len HGO6.out (by simp) (fun _ _ => trivial), by have := HSN.out; omega, by rw [List.length_replicate]; exact HSN.out.symm⟩
    have KF := Lib.hid (fun (U : World) (hU : Below w6.heap.size w6 U) => free_any _ _ _ _ _ _ _ _ _ _ U (hsale6.below hU))
    rw [HF.out] at KF
    have KSV := Lib.hid (fun (U : World) (q : Value) (hU : Below w6.heap.size w6 U) (hq : SlsI (fun b => w6.heap.size ≤ b) U q [F]) => sserve_any (fun b => some b ≠ (Value.slice (some ⟨gG, 0, none⟩) n n).ownBlock) B w2.heap.size (.slice sa n sc) (.slice (some ⟨gG, 0, none⟩) n n) q S (List.replicate n 0) [F] lf U (hsale6.below hU).c4 (hsale6.below hU).c5 (HSL6.out.below hU) (by rw [List.length_replicate]; exact ownsRow_belowZ HGO6.out hU) (fun b hb => hb) HSB6.out (by obtain ⟨vs, q1, q2⟩ := hq; exact ⟨vs, q1.mono (fun b hb _ e => by have := (HGO6.out.lt b e.symm).2; omega), q2.mono (fun b hb _ e => by have := (HGO6.out.lt b e.symm).2; omega)⟩) HFO.out HAM.out hlf0 (by omega) (by rw [List.length_replicate]; exact HSN.out.symm) (by have := HSN.out; omega))
    simp only [List.length_replicate] at KSV
    clear hsale6
    go_upto_region 8 with fail
    refine wp_region_any (by kernel_rfl) ?_
    change wpAny _ _ _ _ _ _ _ (World.drew _)
    refine vf_anyP_inv (J := fun listed a' w' => ∃ t9 t35 t36 t37 t38 t39 t40 t41 t42 t43 t44 : Value, a' = { tmps := #[.agg #[.int .i64 am, .int .i64 le, .int .i64 sh, .bool un], .slice la n lc, .pointer (some ⟨w.heap.size, 0, none⟩), undef, .pointer (some ⟨w.heap.size + 1, 0, none⟩), .int .i64 0, .int .i64 0, .pointer (some ⟨B, 0, none⟩), .int .i64 lots, t9, undef, undef, undef, undef, .agg #[.int .i64 am, .int .i64 le, .int .i64 sh, .bool un], .bool true, .bool false, undef, .slice la n lc, .int .i64 0, .int .i64 0, .bool false, undef, undef, .agg #[.int .i64 am, .int .i64 le, .int .i64 sh, .bool un], .slice la n lc, .slice sa n sc, .slice la n lc, .int .i64 n, .slice (some ⟨gG, 0, none⟩) n n, t30, .pointer (some ⟨B, 0, none⟩), .pointer (some ⟨w.heap.size, 0, none⟩), .int .i64 am, .int .i64 lots, t35, t36, t37, t38, t39, t40, t41, t42, t43, t44, undef, undef, undef, undef, undef, undef, undef, undef, undef, undef, undef, undef, undef, undef, undef, undef, undef, undef, undef, undef, undef, undef, undef, undef, undef, undef, undef, undef, undef, undef, undef, undef, undef, undef, undef, undef, undef, undef, undef, undef, undef, undef, undef, undef, undef, undef, undef, undef, undef, undef, undef], defers := [] } ∧ listed.size = 11 ∧ (listed.getD 0 false = true → t35 = .pointer (some ⟨B, 0, none⟩)) ∧ (listed.getD 1 false = true → t36 = .int .i64 lots) ∧ (listed.getD 2 false = true → t37 = .pointer (some ⟨w.heap.size, 2, none⟩)) ∧ (listed.getD 3 false = true → t38 = .int .i64 sh) ∧ (listed.getD 4 false = true → t39 = .int .i64 (lots * sh)) ∧ (listed.getD 5 false = true → t40 = .int .i64 lf) ∧ (listed.getD 6 false = true → t41 = .pointer (some ⟨B, 0, none⟩)) ∧ (listed.getD 3 false = true → listed.getD 2 false = true) ∧ (listed.getD 4 false = true → listed.getD 1 false = true ∧ listed.getD 3 false = true) ∧ (listed.getD 5 false = true → listed.getD 4 false = true) ∧ (listed.getD 7 false = true → listed.getD 6 false = true) ∧ (listed.getD 8 false = true → listed.getD 7 false = true) ∧ (listed.getD 9 false = true → listed.getD 0 false = true ∧ listed.getD 5 false = true ∧ listed.getD 8 false = true) ∧ (listed.getD 10 false = true → listed.getD 9 false = true) ∧ (E8 w6 n w2.heap.size S (List.replicate n 0) (.slice (some ⟨gG, 0, none⟩) n n) lf F (listed.getD 7 false) (listed.getD 8 false) (listed.getD 9 false) t42 t43 t44 w' ∧ ((listed.getD 10 false) = true → t9 = t44))) ?step ?fin _ _ _ _ ⟨_, _, _, _, _, _, _, _, _, _, _, rfl, rfl, fun h => by simp at h, fun h => by simp at h, fun h => by simp at h, fun h => by simp at h, fun h => by simp at h, fun h => by simp at h, fun h => by simp at h, fun h => by simp at h, fun h => by simp at h, fun h => by simp at h, fun h => by simp at h, fun h => by simp at h, fun h => by simp at h, fun h => by simp at h, ⟨E8.start (bdr brefl), fun h => by cases h⟩⟩ (by decide)
    case step =>
      rintro listed a' w' ⟨t9, t35, t36, t37, t38, t39, t40, t41, t42, t43, t44, rfl, hsz, f0, f1, f2, f3, f4, f5, f6, o3, o4, o5, o7, o8, o9, o10, hvb⟩ i hi K hK
      obtain ⟨hni, o, ho, hdep⟩ := mem_ready.1 hi
      have hin : i < 11 := (Array.getElem?_eq_some_iff.1 ho).1
      have hself := vf_listed_self hni
      have hno := vf_listed_no hni
      rcases (show i = 0 ∨ i = 1 ∨ i = 2 ∨ i = 3 ∨ i = 4 ∨ i = 5 ∨ i = 6 ∨ i = 7 ∨ i = 8 ∨ i = 9 ∨ i = 10 by omega) with rfl | rfl | rfl | rfl | rfl | rfl | rfl | rfl | rfl | rfl | rfl
      · injection ho with ho
        subst ho
        have g7 : (listed.setIfInBounds 0 true).getD 7 false = listed.getD 7 false := getD_set_ne _ (by decide)
        have g8 : (listed.setIfInBounds 0 true).getD 8 false = listed.getD 8 false := getD_set_ne _ (by decide)
        have g9 : (listed.setIfInBounds 0 true).getD 9 false = listed.getD 9 false := getD_set_ne _ (by decide)
        have g10 : (listed.setIfInBounds 0 true).getD 10 false = listed.getD 10 false := getD_set_ne _ (by decide)
        have HVB := Lib.hid hvb
        clear hi hdep hvb
        refine vf_wpOpP_of rfl rfl ?_
        go_simp
        exact hK _ _ ⟨_, (.pointer (some ⟨B, 0, none⟩)), _, _, _, _, _, _, _, _, _, rfl, by simpa using hsz, fun _ => rfl, fun h => by first | exact f1 (vf_listed_ne (by decide) h) | rfl, fun h => by first | exact f2 (vf_listed_ne (by decide) h) | rfl, fun h => by first | exact f3 (vf_listed_ne (by decide) h) | rfl, fun h => by first | exact f4 (vf_listed_ne (by decide) h) | rfl, fun h => by first | exact f5 (vf_listed_ne (by decide) h) | rfl, fun h => by first | exact f6 (vf_listed_ne (by decide) h) | rfl, fun h => vf_listed_keep (o3 (vf_listed_ne (by decide) h)), fun h => by have q := o4 (vf_listed_ne (by decide) h); exact ⟨vf_listed_keep q.1, vf_listed_keep q.2⟩, fun h => vf_listed_keep (o5 (vf_listed_ne (by decide) h)), fun h => vf_listed_keep (o7 (vf_listed_ne (by decide) h)), fun h => vf_listed_keep (o8 (vf_listed_ne (by decide) h)), fun h => by have q := o9 (vf_listed_ne (by decide) h); exact ⟨vf_listed_keep q.1, vf_listed_keep q.2.1, vf_listed_keep q.2.2⟩, fun h => vf_listed_keep (o10 (vf_listed_ne (by decide) h)), by rw [g7, g8, g9, g10]; exact HVB.out⟩
      · injection ho with ho
        subst ho
        have g7 : (listed.setIfInBounds 1 true).getD 7 false = listed.getD 7 false := getD_set_ne _ (by decide)
        have g8 : (listed.setIfInBounds 1 true).getD 8 false = listed.getD 8 false := getD_set_ne _ (by decide)
        have g9 : (listed.setIfInBounds 1 true).getD 9 false = listed.getD 9 false := getD_set_ne _ (by decide)
        have g10 : (listed.setIfInBounds 1 true).getD 10 false = listed.getD 10 false := getD_set_ne _ (by decide)
        have HVB := Lib.hid hvb
        clear hi hdep hvb
        refine vf_wpOpP_of rfl rfl ?_
        go_simp
        exact hK _ _ ⟨_, _, (.int .i64 lots), _, _, _, _, _, _, _, _, rfl, by simpa using hsz, fun h => by first | exact f0 (vf_listed_ne (by decide) h) | rfl, fun _ => rfl, fun h => by first | exact f2 (vf_listed_ne (by decide) h) | rfl, fun h => by first | exact f3 (vf_listed_ne (by decide) h) | rfl, fun h => by first | exact f4 (vf_listed_ne (by decide) h) | rfl, fun h => by first | exact f5 (vf_listed_ne (by decide) h) | rfl, fun h => by first | exact f6 (vf_listed_ne (by decide) h) | rfl, fun h => vf_listed_keep (o3 (vf_listed_ne (by decide) h)), fun h => by have q := o4 (vf_listed_ne (by decide) h); exact ⟨vf_listed_keep q.1, vf_listed_keep q.2⟩, fun h => vf_listed_keep (o5 (vf_listed_ne (by decide) h)), fun h => vf_listed_keep (o7 (vf_listed_ne (by decide) h)), fun h => vf_listed_keep (o8 (vf_listed_ne (by decide) h)), fun h => by have q := o9 (vf_listed_ne (by decide) h); exact ⟨vf_listed_keep q.1, vf_listed_keep q.2.1, vf_listed_keep q.2.2⟩, fun h => vf_listed_keep (o10 (vf_listed_ne (by decide) h)), by rw [g7, g8, g9, g10]; exact HVB.out⟩
      · injection ho with ho
        subst ho
        have g7 : (listed.setIfInBounds 2 true).getD 7 false = listed.getD 7 false := getD_set_ne _ (by decide)
        have g8 : (listed.setIfInBounds 2 true).getD 8 false = listed.getD 8 false := getD_set_ne _ (by decide)
        have g9 : (listed.setIfInBounds 2 true).getD 9 false = listed.getD 9 false := getD_set_ne _ (by decide)
        have g10 : (listed.setIfInBounds 2 true).getD 10 false = listed.getD 10 false := getD_set_ne _ (by decide)
        have HVB := Lib.hid hvb
        clear hi hdep hvb
        refine vf_wpOpP_of rfl rfl ?_
        go_simp
        exact hK _ _ ⟨_, _, _, (.pointer (some ⟨w.heap.size, 2, none⟩)), _, _, _, _, _, _, _, rfl, by simpa using hsz, fun h => by first | exact f0 (vf_listed_ne (by decide) h) | rfl, fun h => by first | exact f1 (vf_listed_ne (by decide) h) | rfl, fun _ => rfl, fun h => by first | exact f3 (vf_listed_ne (by decide) h) | rfl, fun h => by first | exact f4 (vf_listed_ne (by decide) h) | rfl, fun h => by first | exact f5 (vf_listed_ne (by decide) h) | rfl, fun h => by first | exact f6 (vf_listed_ne (by decide) h) | rfl, fun h => vf_listed_keep (o3 (vf_listed_ne (by decide) h)), fun h => by have q := o4 (vf_listed_ne (by decide) h); exact ⟨vf_listed_keep q.1, vf_listed_keep q.2⟩, fun h => vf_listed_keep (o5 (vf_listed_ne (by decide) h)), fun h => vf_listed_keep (o7 (vf_listed_ne (by decide) h)), fun h => vf_listed_keep (o8 (vf_listed_ne (by decide) h)), fun h => by have q := o9 (vf_listed_ne (by decide) h); exact ⟨vf_listed_keep q.1, vf_listed_keep q.2.1, vf_listed_keep q.2.2⟩, fun h => vf_listed_keep (o10 (vf_listed_ne (by decide) h)), by rw [g7, g8, g9, g10]; exact HVB.out⟩
      · injection ho with ho
        subst ho
        have d2 := hdep ⟨2, .data⟩ (by simp) rfl
        have g7 : (listed.setIfInBounds 3 true).getD 7 false = listed.getD 7 false := getD_set_ne _ (by decide)
        have g8 : (listed.setIfInBounds 3 true).getD 8 false = listed.getD 8 false := getD_set_ne _ (by decide)
        have g9 : (listed.setIfInBounds 3 true).getD 9 false = listed.getD 9 false := getD_set_ne _ (by decide)
        have g10 : (listed.setIfInBounds 3 true).getD 10 false = listed.getD 10 false := getD_set_ne _ (by decide)
        obtain rfl := f2 d2
        have n9 : listed.getD 9 false = false := by
          cases h : listed.getD 9 false with
          | false => rfl
          | true => have q := (o4 (o5 (o9 h).2.1)).2; rw [hno] at q; cases q
        rw [n9] at hvb
        have k3 := keepB (hvb.1.pre rfl).1 HO6.out.2
        have HVB := Lib.hid hvb
        clear hi hdep hvb
        refine vf_wpOpP_of rfl rfl ?_
        go_simp
        exact hK _ _ ⟨_, _, _, _, (.int .i64 sh), _, _, _, _, _, _, rfl, by simpa using hsz, fun h => by first | exact f0 (vf_listed_ne (by decide) h) | rfl, fun h => by first | exact f1 (vf_listed_ne (by decide) h) | rfl, fun h => by first | exact f2 (vf_listed_ne (by decide) h) | rfl, fun _ => rfl, fun h => by first | exact f4 (vf_listed_ne (by decide) h) | rfl, fun h => by first | exact f5 (vf_listed_ne (by decide) h) | rfl, fun h => by first | exact f6 (vf_listed_ne (by decide) h) | rfl, fun _ => vf_listed_keep d2, fun h => by have q := o4 (vf_listed_ne (by decide) h); exact ⟨vf_listed_keep q.1, vf_listed_keep q.2⟩, fun h => vf_listed_keep (o5 (vf_listed_ne (by decide) h)), fun h => vf_listed_keep (o7 (vf_listed_ne (by decide) h)), fun h => vf_listed_keep (o8 (vf_listed_ne (by decide) h)), fun h => by have q := o9 (vf_listed_ne (by decide) h); exact ⟨vf_listed_keep q.1, vf_listed_keep q.2.1, vf_listed_keep q.2.2⟩, fun h => vf_listed_keep (o10 (vf_listed_ne (by decide) h)), by rw [g7, g8, g9, g10, n9]; exact ⟨HVB.out.1, HVB.out.2⟩⟩
      · injection ho with ho
        subst ho
        have d1 := hdep ⟨1, .data⟩ (by simp) rfl
        have d3 := hdep ⟨3, .data⟩ (by simp) rfl
        have g7 : (listed.setIfInBounds 4 true).getD 7 false = listed.getD 7 false := getD_set_ne _ (by decide)
        have g8 : (listed.setIfInBounds 4 true).getD 8 false = listed.getD 8 false := getD_set_ne _ (by decide)
        have g9 : (listed.setIfInBounds 4 true).getD 9 false = listed.getD 9 false := getD_set_ne _ (by decide)
        have g10 : (listed.setIfInBounds 4 true).getD 10 false = listed.getD 10 false := getD_set_ne _ (by decide)
        obtain rfl := f1 d1
        obtain rfl := f3 d3
        have HVB := Lib.hid hvb
        clear hi hdep hvb
        refine vf_wpOpP_of rfl rfl ?_
        go_simp
        exact hK _ _ ⟨_, _, _, _, _, (.int .i64 (lots * sh)), _, _, _, _, _, rfl, by simpa using hsz, fun h => by first | exact f0 (vf_listed_ne (by decide) h) | rfl, fun h => by first | exact f1 (vf_listed_ne (by decide) h) | rfl, fun h => by first | exact f2 (vf_listed_ne (by decide) h) | rfl, fun h => by first | exact f3 (vf_listed_ne (by decide) h) | rfl, fun _ => rfl, fun h => by first | exact f5 (vf_listed_ne (by decide) h) | rfl, fun h => by first | exact f6 (vf_listed_ne (by decide) h) | rfl, fun h => vf_listed_keep (o3 (vf_listed_ne (by decide) h)), fun _ => ⟨vf_listed_keep d1, vf_listed_keep d3⟩, fun h => vf_listed_keep (o5 (vf_listed_ne (by decide) h)), fun h => vf_listed_keep (o7 (vf_listed_ne (by decide) h)), fun h => vf_listed_keep (o8 (vf_listed_ne (by decide) h)), fun h => by have q := o9 (vf_listed_ne (by decide) h); exact ⟨vf_listed_keep q.1, vf_listed_keep q.2.1, vf_listed_keep q.2.2⟩, fun h => vf_listed_keep (o10 (vf_listed_ne (by decide) h)), by rw [g7, g8, g9, g10]; exact HVB.out⟩
      · injection ho with ho
        subst ho
        have d4 := hdep ⟨4, .data⟩ (by simp) rfl
        have g7 : (listed.setIfInBounds 5 true).getD 7 false = listed.getD 7 false := getD_set_ne _ (by decide)
        have g8 : (listed.setIfInBounds 5 true).getD 8 false = listed.getD 8 false := getD_set_ne _ (by decide)
        have g9 : (listed.setIfInBounds 5 true).getD 9 false = listed.getD 9 false := getD_set_ne _ (by decide)
        have g10 : (listed.setIfInBounds 5 true).getD 10 false = listed.getD 10 false := getD_set_ne _ (by decide)
        obtain rfl := f4 d4
        have HVB := Lib.hid hvb
        clear hi hdep hvb
        refine vf_wpOpP_of rfl rfl ?_
        go_simp
        exact hK _ _ ⟨_, _, _, _, _, _, (.int .i64 lf), _, _, _, _, rfl, by simpa using hsz, fun h => by first | exact f0 (vf_listed_ne (by decide) h) | rfl, fun h => by first | exact f1 (vf_listed_ne (by decide) h) | rfl, fun h => by first | exact f2 (vf_listed_ne (by decide) h) | rfl, fun h => by first | exact f3 (vf_listed_ne (by decide) h) | rfl, fun h => by first | exact f4 (vf_listed_ne (by decide) h) | rfl, fun _ => rfl, fun h => by first | exact f6 (vf_listed_ne (by decide) h) | rfl, fun h => vf_listed_keep (o3 (vf_listed_ne (by decide) h)), fun h => by have q := o4 (vf_listed_ne (by decide) h); exact ⟨vf_listed_keep q.1, vf_listed_keep q.2⟩, fun _ => vf_listed_keep d4, fun h => vf_listed_keep (o7 (vf_listed_ne (by decide) h)), fun h => vf_listed_keep (o8 (vf_listed_ne (by decide) h)), fun h => by have q := o9 (vf_listed_ne (by decide) h); exact ⟨vf_listed_keep q.1, vf_listed_keep q.2.1, vf_listed_keep q.2.2⟩, fun h => vf_listed_keep (o10 (vf_listed_ne (by decide) h)), by rw [g7, g8, g9, g10]; exact HVB.out⟩
      · injection ho with ho
        subst ho
        have g7 : (listed.setIfInBounds 6 true).getD 7 false = listed.getD 7 false := getD_set_ne _ (by decide)
        have g8 : (listed.setIfInBounds 6 true).getD 8 false = listed.getD 8 false := getD_set_ne _ (by decide)
        have g9 : (listed.setIfInBounds 6 true).getD 9 false = listed.getD 9 false := getD_set_ne _ (by decide)
        have g10 : (listed.setIfInBounds 6 true).getD 10 false = listed.getD 10 false := getD_set_ne _ (by decide)
        have HVB := Lib.hid hvb
        clear hi hdep hvb
        refine vf_wpOpP_of rfl rfl ?_
        go_simp
        exact hK _ _ ⟨_, _, _, _, _, _, _, (.pointer (some ⟨B, 0, none⟩)), _, _, _, rfl, by simpa using hsz, fun h => by first | exact f0 (vf_listed_ne (by decide) h) | rfl, fun h => by first | exact f1 (vf_listed_ne (by decide) h) | rfl, fun h => by first | exact f2 (vf_listed_ne (by decide) h) | rfl, fun h => by first | exact f3 (vf_listed_ne (by decide) h) | rfl, fun h => by first | exact f4 (vf_listed_ne (by decide) h) | rfl, fun h => by first | exact f5 (vf_listed_ne (by decide) h) | rfl, fun _ => rfl, fun h => vf_listed_keep (o3 (vf_listed_ne (by decide) h)), fun h => by have q := o4 (vf_listed_ne (by decide) h); exact ⟨vf_listed_keep q.1, vf_listed_keep q.2⟩, fun h => vf_listed_keep (o5 (vf_listed_ne (by decide) h)), fun h => vf_listed_keep (o7 (vf_listed_ne (by decide) h)), fun h => vf_listed_keep (o8 (vf_listed_ne (by decide) h)), fun h => by have q := o9 (vf_listed_ne (by decide) h); exact ⟨vf_listed_keep q.1, vf_listed_keep q.2.1, vf_listed_keep q.2.2⟩, fun h => vf_listed_keep (o10 (vf_listed_ne (by decide) h)), by rw [g7, g8, g9, g10]; exact HVB.out⟩
      · injection ho with ho
        subst ho
        have d6 := hdep ⟨6, .data⟩ (by simp) rfl
        have g7 : (listed.setIfInBounds 7 true).getD 7 false = true := hself
        have g8 : (listed.setIfInBounds 7 true).getD 8 false = listed.getD 8 false := getD_set_ne _ (by decide)
        have g9 : (listed.setIfInBounds 7 true).getD 9 false = listed.getD 9 false := getD_set_ne _ (by decide)
        have g10 : (listed.setIfInBounds 7 true).getD 10 false = listed.getD 10 false := getD_set_ne _ (by decide)
        obtain rfl := f6 d6
        have n9 : listed.getD 9 false = false := by
          cases h : listed.getD 9 false with
          | false => rfl
          | true => have q := (o8 (o9 h).2.2); rw [hno] at q; cases q
        rw [n9, hno] at hvb
        have HVB := Lib.hid hvb
        clear hi hdep hvb
        refine vf_wpOpP_of rfl rfl ?_
        go_simp
        refine (KF.out _ (HVB.out.1.pre rfl).1).mono ?_
        rintro e w9 ⟨v9, rfl, hv9, hb9⟩
        exact hK _ _ ⟨_, _, _, _, _, _, _, _, (v9), _, _, rfl, by simpa using hsz, fun h => by first | exact f0 (vf_listed_ne (by decide) h) | rfl, fun h => by first | exact f1 (vf_listed_ne (by decide) h) | rfl, fun h => by first | exact f2 (vf_listed_ne (by decide) h) | rfl, fun h => by first | exact f3 (vf_listed_ne (by decide) h) | rfl, fun h => by first | exact f4 (vf_listed_ne (by decide) h) | rfl, fun h => by first | exact f5 (vf_listed_ne (by decide) h) | rfl, fun h => by first | exact f6 (vf_listed_ne (by decide) h) | rfl, fun h => vf_listed_keep (o3 (vf_listed_ne (by decide) h)), fun h => by have q := o4 (vf_listed_ne (by decide) h); exact ⟨vf_listed_keep q.1, vf_listed_keep q.2⟩, fun h => vf_listed_keep (o5 (vf_listed_ne (by decide) h)), fun _ => vf_listed_keep d6, fun h => vf_listed_keep (o8 (vf_listed_ne (by decide) h)), fun h => by have q := o9 (vf_listed_ne (by decide) h); exact ⟨vf_listed_keep q.1, vf_listed_keep q.2.1, vf_listed_keep q.2.2⟩, fun h => vf_listed_keep (o10 (vf_listed_ne (by decide) h)), by rw [g7, g8, g9, g10, n9]; exact ⟨HVB.out.1.freed hb9 hv9, HVB.out.2⟩⟩
      · injection ho with ho
        subst ho
        have d7 := hdep ⟨7, .data⟩ (by simp) rfl
        have g7 : (listed.setIfInBounds 8 true).getD 7 false = listed.getD 7 false := getD_set_ne _ (by decide)
        have g8 : (listed.setIfInBounds 8 true).getD 8 false = true := hself
        have g9 : (listed.setIfInBounds 8 true).getD 9 false = listed.getD 9 false := getD_set_ne _ (by decide)
        have g10 : (listed.setIfInBounds 8 true).getD 10 false = listed.getD 10 false := getD_set_ne _ (by decide)
        have n9 : listed.getD 9 false = false := by
          cases h : listed.getD 9 false with
          | false => rfl
          | true => have q := (o9 h).2.2; rw [hno] at q; cases q
        rw [n9, d7, hno] at hvb
        obtain ⟨af, nf, cf, rfl, -, -, -⟩ := ((hvb.1.pre rfl).2.1 rfl).shape
        have HVB := Lib.hid hvb
        clear hi hdep hvb
        refine vf_wpOpP_of rfl rfl ?_
        go_simp
        exact hK _ _ ⟨_, _, _, _, _, _, _, _, _, _, _, rfl, by simpa using hsz, fun h => by first | exact f0 (vf_listed_ne (by decide) h) | rfl, fun h => by first | exact f1 (vf_listed_ne (by decide) h) | rfl, fun h => by first | exact f2 (vf_listed_ne (by decide) h) | rfl, fun h => by first | exact f3 (vf_listed_ne (by decide) h) | rfl, fun h => by first | exact f4 (vf_listed_ne (by decide) h) | rfl, fun h => by first | exact f5 (vf_listed_ne (by decide) h) | rfl, fun h => by first | exact f6 (vf_listed_ne (by decide) h) | rfl, fun h => vf_listed_keep (o3 (vf_listed_ne (by decide) h)), fun h => by have q := o4 (vf_listed_ne (by decide) h); exact ⟨vf_listed_keep q.1, vf_listed_keep q.2⟩, fun h => vf_listed_keep (o5 (vf_listed_ne (by decide) h)), fun h => vf_listed_keep (o7 (vf_listed_ne (by decide) h)), fun _ => vf_listed_keep d7, fun h => by have q := o9 (vf_listed_ne (by decide) h); exact ⟨vf_listed_keep q.1, vf_listed_keep q.2.1, vf_listed_keep q.2.2⟩, fun h => vf_listed_keep (o10 (vf_listed_ne (by decide) h)), by rw [g7, g8, g9, g10, n9, d7]; exact ⟨HVB.out.1.built, HVB.out.2⟩⟩
      · injection ho with ho
        subst ho
        have d0 := hdep ⟨0, .data⟩ (by simp) rfl
        have d5 := hdep ⟨5, .data⟩ (by simp) rfl
        have d8 := hdep ⟨8, .data⟩ (by simp) rfl
        have g7 : (listed.setIfInBounds 9 true).getD 7 false = listed.getD 7 false := getD_set_ne _ (by decide)
        have g8 : (listed.setIfInBounds 9 true).getD 8 false = listed.getD 8 false := getD_set_ne _ (by decide)
        have g9 : (listed.setIfInBounds 9 true).getD 9 false = true := hself
        have g10 : (listed.setIfInBounds 9 true).getD 10 false = listed.getD 10 false := getD_set_ne _ (by decide)
        obtain rfl := f0 d0
        obtain rfl := f5 d5
        have n10 : listed.getD 10 false = false := by
          cases h : listed.getD 10 false with
          | false => rfl
          | true => have q := (o10 h); rw [hno] at q; cases q
        have d7 := o8 d8
        rw [n10, d8, d7, hno] at hvb
        obtain ⟨hb0, hr0⟩ := hvb.1.rows
        obtain ⟨af, nf, cf, rfl, -, -, -⟩ := hr0.shape
        have HB0 := Lib.hid hb0
        have HR0 := Lib.hid hr0
        clear hb0 hr0
        have HVB := Lib.hid hvb
        clear hi hdep hvb
        refine vf_wpOpP_of rfl rfl ?_
        go_simp
        refine (KSV.out _ _ HB0.out HR0.out).mono ?_
        rintro e w9 ⟨rfl, ho9, hg9⟩
        exact hK _ _ ⟨_, _, _, _, _, _, _, _, _, _, _, rfl, by simpa using hsz, fun h => by first | exact f0 (vf_listed_ne (by decide) h) | rfl, fun h => by first | exact f1 (vf_listed_ne (by decide) h) | rfl, fun h => by first | exact f2 (vf_listed_ne (by decide) h) | rfl, fun h => by first | exact f3 (vf_listed_ne (by decide) h) | rfl, fun h => by first | exact f4 (vf_listed_ne (by decide) h) | rfl, fun h => by first | exact f5 (vf_listed_ne (by decide) h) | rfl, fun h => by first | exact f6 (vf_listed_ne (by decide) h) | rfl, fun h => vf_listed_keep (o3 (vf_listed_ne (by decide) h)), fun h => by have q := o4 (vf_listed_ne (by decide) h); exact ⟨vf_listed_keep q.1, vf_listed_keep q.2⟩, fun h => vf_listed_keep (o5 (vf_listed_ne (by decide) h)), fun h => vf_listed_keep (o7 (vf_listed_ne (by decide) h)), fun h => vf_listed_keep (o8 (vf_listed_ne (by decide) h)), fun _ => ⟨vf_listed_keep d0, vf_listed_keep d5, vf_listed_keep d8⟩, fun h => vf_listed_keep (o10 (vf_listed_ne (by decide) h)), by rw [g7, g8, g9, g10, n10, d8, d7]; exact ⟨HVB.out.1.served ho9 hg9, fun h => by cases h⟩⟩
      · injection ho with ho
        subst ho
        have d9 := hdep ⟨9, .data⟩ (by simp) rfl
        have g7 : (listed.setIfInBounds 10 true).getD 7 false = listed.getD 7 false := getD_set_ne _ (by decide)
        have g8 : (listed.setIfInBounds 10 true).getD 8 false = listed.getD 8 false := getD_set_ne _ (by decide)
        have g9 : (listed.setIfInBounds 10 true).getD 9 false = listed.getD 9 false := getD_set_ne _ (by decide)
        have g10 : (listed.setIfInBounds 10 true).getD 10 false = true := hself
        rw [d9, hno] at hvb
        have HVB := Lib.hid hvb
        clear hi hdep hvb
        refine vf_wpOpP_of rfl rfl ?_
        go_simp
        exact hK _ _ ⟨_, _, _, _, _, _, _, _, _, _, _, rfl, by simpa using hsz, fun h => by first | exact f0 (vf_listed_ne (by decide) h) | rfl, fun h => by first | exact f1 (vf_listed_ne (by decide) h) | rfl, fun h => by first | exact f2 (vf_listed_ne (by decide) h) | rfl, fun h => by first | exact f3 (vf_listed_ne (by decide) h) | rfl, fun h => by first | exact f4 (vf_listed_ne (by decide) h) | rfl, fun h => by first | exact f5 (vf_listed_ne (by decide) h) | rfl, fun h => by first | exact f6 (vf_listed_ne (by decide) h) | rfl, fun h => vf_listed_keep (o3 (vf_listed_ne (by decide) h)), fun h => by have q := o4 (vf_listed_ne (by decide) h); exact ⟨vf_listed_keep q.1, vf_listed_keep q.2⟩, fun h => vf_listed_keep (o5 (vf_listed_ne (by decide) h)), fun h => vf_listed_keep (o7 (vf_listed_ne (by decide) h)), fun h => vf_listed_keep (o8 (vf_listed_ne (by decide) h)), fun h => by have q := o9 (vf_listed_ne (by decide) h); exact ⟨vf_listed_keep q.1, vf_listed_keep q.2.1, vf_listed_keep q.2.2⟩, fun _ => vf_listed_keep d9, by rw [g7, g8, g9, g10, d9]; exact ⟨HVB.out.1, fun _ => rfl⟩⟩
    case fin =>
      rintro listed a' w' ⟨t9, t35, t36, t37, t38, t39, t40, t41, t42, t43, t44, rfl, hsz, f0, f1, f2, f3, f4, f5, f6, o3, o4, o5, o7, o8, o9, o10, hvb⟩ hr
      have hfull := vf_ready_full hsz hr (by kernel_rfl)
      obtain rfl := f0 (hfull 0 (by decide))
      obtain rfl := f1 (hfull 1 (by decide))
      obtain rfl := f2 (hfull 2 (by decide))
      obtain rfl := f3 (hfull 3 (by decide))
      obtain rfl := f4 (hfull 4 (by decide))
      obtain rfl := f5 (hfull 5 (by decide))
      obtain rfl := f6 (hfull 6 (by decide))
      rw [hfull 7 (by decide), hfull 8 (by decide), hfull 9 (by decide), hfull 10 (by decide)] at hvb
      clear o3 o4 o5 o7 o8 o9 o10 hfull hr hsz
      obtain ⟨hE, h9⟩ := hvb
      obtain rfl := h9 rfl
      obtain ⟨rfl, ho8, hg8⟩ := hE.sv rfl
      rw [HN1.out]
      rw [HGG1.out] at ho8
      obtain ⟨w8, hw8⟩ : ∃ u : World, u = w' := ⟨w', rfl⟩
      subst hw8
      have hBl6 : B < w6.heap.size := (Array.getElem?_eq_some_iff.1 HBX6.out).1
      have hbx8 := (hg8.block B hBl6 HSB6.out).trans HBX6.out
      have HSL8 := Lib.hid (HSL6.out.block hg8.size (fun b hb hlt => hg8.block b hlt hb))
      have HBX8 := Lib.hid hbx8
      have HGO8 := Lib.hid ho8
      have HBW8 := Lib.hid (HBW6.out.grown hg8 HBW6.out.size (fun q hq => by have := (HGO6.out.lt q hq).1; have := HB2.out.size; omega))
      have hsale8 : SaleIn (fun _ => True) w8 B am le sh un (.slice sa n sc) (.slice (some ⟨gG, 0, none⟩) n n) S G1 := ⟨cell_heap hbx8 rfl, cell_heap hbx8 rfl, cell_heap hbx8 rfl, cell_heap hbx8 rfl, cell_heap hbx8 rfl, cell_heap hbx8 rfl, HSL8.out.mono (fun _ _ _ => trivial), Sl.own encI_len ho8 HG1L.out (fun _ _ => trivial), by have := HSN.out; omega, by rw [HG1L.out]; exact HSN.out.symm⟩
      have KCP := Lib.hid (competing_any _ _ _ _ _ _ _ _ _ _ w8 hsale8 HPRC.out HPL.out)
      rw [HCC.out] at KCP
      have HR8 := Lib.hid ((hg8.block (w.heap.size + 1) (by omega) (fun e => by have := (HGO6.out.lt _ e.symm).1; omega)).trans HR6.out)
      have z8 : w6.heap.size ≤ w8.heap.size := hg8.size
      have HSB8 := Lib.hid (own_neT (by decide) hbx8 ho8)
      clear hE h9 ho8 hg8 hbx8 hsale8
      go_wp2_with fail
      refine KCP.out.mono ?_
      rintro e w9 ⟨v9, rfl, hv9, hb9⟩
      obtain ⟨qa9, qn9, qc9, rfl, hqn9, -, -⟩ := hv9.shape
      have hBl8 : B < w8.heap.size := (Array.getElem?_eq_some_iff.1 HBX8.out).1
      have hbx9 := (hb9.block B hBl8).trans HBX8.out
      have KSV2 := sserve_any (fun b => some b ≠ (Value.slice (some ⟨gG, 0, none⟩) n n).ownBlock) B w2.heap.size (.slice sa n sc) (.slice (some ⟨gG, 0, none⟩) n n) (.slice qa9 qn9 qc9) S G1 C (lots - N1) w9 (cell_heap hbx9 rfl) (cell_heap hbx9 rfl) (HSL8.out.below hb9) (by rw [HG1L.out]; exact ownsRow_belowZ HGO8.out hb9) (fun b hb => hb) HSB8.out (by obtain ⟨vs, q1, q2⟩ := hv9; exact ⟨vs, q1.mono (fun b hb _ e => by have := (HGO8.out.lt b e.symm).2; omega), q2.mono (fun b hb _ e => by have := (HGO8.out.lt b e.symm).2; omega)⟩) HCO.out HAM.out (by omega) (by omega) (by rw [HG1L.out]; exact HSN.out.symm) (by have := HSN.out; omega)
      rw [HG1L.out, HGG2.out] at KSV2
      have HKS2 := Lib.hid KSV2
      have HBX9 := Lib.hid hbx9
      have HGO9 := Lib.hid (ownsRow_belowZ HGO8.out hb9)
      have HSL9 := Lib.hid (HSL8.out.below hb9)
      have HBW9 := Lib.hid (bup HBW8.out hb9)
      have HR9 := Lib.hid ((hb9.block _ (Array.getElem?_eq_some_iff.1 HR8.out).1).trans HR8.out)
      have z9 : w8.heap.size ≤ w9.heap.size := hb9.size
      clear hv9 hb9 hbx9 KSV2 hqn9
      go_wp2_with fail
      refine HKS2.out.mono ?_
      rintro e w10 ⟨rfl, ho10, hg10⟩
      have hbx10 := (hg10.block B (by omega) HSB8.out).trans HBX9.out
      have HSL10 := Lib.hid (HSL9.out.block hg10.size (fun b hb hlt => hg10.block b hlt hb))
      have HBX10 := Lib.hid hbx10
      have HGO10 := Lib.hid ho10
      have HBW10 := Lib.hid (HBW9.out.grown hg10 HBW9.out.size (fun q hq => by have := (HGO9.out.lt q hq).1; have := HB2.out.size; omega))
      have hsale10 : SaleIn (fun _ => True) w10 B am le sh un (.slice sa n sc) (.slice (some ⟨gG, 0, none⟩) n n) S G2 := ⟨cell_heap hbx10 rfl, cell_heap hbx10 rfl, cell_heap hbx10 rfl, cell_heap hbx10 rfl, cell_heap hbx10 rfl, cell_heap hbx10 rfl, HSL10.out.mono (fun _ _ _ => trivial), Sl.own encI_len ho10 HG2L.out (fun _ _ => trivial), by have := HSN.out; omega, by rw [HG2L.out]; exact HSN.out.symm⟩
      have KCT := cut_any _ _ _ _ _ _ _ _ _ _ w10 hsale10
      obtain ⟨cut, hcut⟩ : ∃ x, cutT S G2 S.length = x := ⟨_, rfl⟩
      rw [hcut] at KCT
      have HKC := Lib.hid KCT
      have HCUT := Lib.hid hcut
      have HR10 := Lib.hid ((hg10.block (w.heap.size + 1) (by omega) (fun e => by have := (HGO9.out.lt _ e.symm).1; omega)).trans HR9.out)
      have HS10 := Lib.hid hsale10
      have z10 : w9.heap.size ≤ w10.heap.size := hg10.size
      clear hbx10 ho10 hg10 hsale10 KCT hcut
      go_wp2_with fail
      refine HKC.out.mono ?_
      rintro e w11 ⟨rfl, hb11⟩
      have HS11 := Lib.hid (HS10.out.below hb11)
      have HBW11 := Lib.hid (bup HBW10.out hb11)
      have HR11 := Lib.hid ((hb11.block _ (Array.getElem?_eq_some_iff.1 HR10.out).1).trans HR10.out)
      have z11 : w10.heap.size ≤ w11.heap.size := hb11.size
      have hBl11 : B < w11.heap.size := by omega
      clear hb11
      go_upto_region 11 with fail
      obtain ⟨W11, hW11⟩ : ∃ W, W = w11.alloc (.cells #[.int .i64 cut, .int .i64 0, .slice none 0 0] 32 (0, 0)) := ⟨_, rfl⟩
      rw [← hW11]
      have hbW : Below w11.heap.size w11 W11 := by rw [hW11]; exact bal brefl _
      have hRo : W11.heap[w11.heap.size]? = some (.cells #[.int .i64 cut, .int .i64 0, .slice none 0 0] 32 (0, 0)) := by rw [hW11]; exact heap_alloc_new w11 _
      have d4 := (HS11.out.below hbW).c4
      have HRO := Lib.hid hRo
      have HBWW := Lib.hid hbW
      have zRo : w11.heap.size < W11.heap.size := (Array.getElem?_eq_some_iff.1 hRo).1
      clear hW11 hbW hRo
      go_wp2
      go_loopw [60] (fun iv wq => ∃ (k : Nat) (av : Value), k ≤ n ∧ iv = .int .i64 k ∧ wq.heap[w11.heap.size]? = some (.cells #[.int .i64 cut, .int .i64 (sdT G2 k), av] 32 (0, 0)) ∧ wq.ownsRow (w11.heap.size + 1) 42 4 av (awT le un S G2 k).length (flatE encAwd (awT le un S G2 k)) ∧ Below w11.heap.size w11 wq) (fun iv _ => n - (intOf iv).toNat)
      case atStart => exact ⟨0, .slice none 0 0, by omega, rfl, HRO.out, World.ownsRow_nil _ _ _ _, HBWW.out⟩
      case round =>
        obtain ⟨k, av, hk, rfl, hro, haw, hbr⟩ := hrel
        have zr := hbr.size
        have zro : w11.heap.size < wr.heap.size := (Array.getElem?_eq_some_iff.1 hro).1
        by_cases hlt : k < n
        · have hs := HS11.out.below hbr
          obtain ⟨bb, boff, bd, num, p, a, f, hsa, -, hbb, hx, k0, k1, k2, k3, k4⟩ := hs.s.bid hlt
          obtain ⟨gb, goff, g, hga, -, hgb, hg, g0⟩ := hs.g.int (k := k) hlt
          cases hsa
          cases hga
          simp only [Nat.zero_add] at g0
          have hkz : (k : Int) < (n : Int) := by omega
          have c5 := hs.c5
          obtain ⟨gg0, gg1⟩ := HG2.out g (List.mem_of_getElem? hg)
          have hw1 : wrap64 (g * 1000) = g * 1000 := IntWalk.wrap64_in _ (by omega)
          have hi1 : IntKind.i64.wrap (g * 1000) = g * 1000 := IntWalk.i64_in _ (by omega)
          obtain ⟨W1, hW1⟩ : ∃ W, W = wr.alloc (.cells #[.int .i64 bd, .int .i64 num, .int .i64 p, .int .i64 a, .bool f] 37 (0, 0)) := ⟨_, rfl⟩
          have hb1 : Below wr.heap.size wr W1 := by rw [hW1]; exact bal brefl _
          have hB1 : W1.heap[wr.heap.size]? = some (.cells #[.int .i64 bd, .int .i64 num, .int .i64 p, .int .i64 a, .bool f] 37 (0, 0)) := by rw [hW1]; exact heap_alloc_new wr _
          replace c5 := keepB hb1 c5
          replace g0 := keepB hb1 g0
          have zW1 : wr.heap.size < W1.heap.size := (Array.getElem?_eq_some_iff.1 hB1).1
          have HX := Lib.hid hW1
          have HXX := Lib.hid hx
          have HGG := Lib.hid hg
          have HRR := Lib.hid ((hb1.block _ zro).trans hro)
          have HAW := Lib.hid (ownsRow_belowZ haw hb1)
          have HBR := Lib.hid (hbr.trans (hb1.mono zr))
          have HSW := Lib.hid (hs.below hb1)
          have HBX1 := Lib.hid hB1
          clear hs hx hg hro haw hbr hb1 hB1 hW1
          go_upto_region 14 with fail
          rw [← HX.out]
          clear k0 k1 k2 k3 k4
          by_cases hg0 : 0 < g
          case neg =>
            have hg1 : g = 0 := by omega
            subst hg1
            have e1 := Lib.hid (awT_no (le := le) (un := un) HXX.out HGG.out hg0)
            have e2 := Lib.hid (sdT_no HGG.out hg0)
            go_wp2
            go_roundw
            case rel => exact ⟨k + 1, av, by omega, by go_num, by rw [e2.out]; exact HRR.out, by rw [e1.out]; exact HAW.out, HBR.out⟩
            case measure => simp [intOf]; omega
          have hgp : 0 < g * 1000 := by omega
          obtain ⟨pv, hpv⟩ : ∃ x, prV le un S G2 ⟨bd, num, p, a, f⟩ = x := ⟨_, rfl⟩
          have KPR := Lib.hid (fun (U : World) (hU : Below W1.heap.size W1 U) => price_any _ _ _ _ _ _ _ _ _ _ bd num p a f U (HSW.out.below hU) HGOT.out)
          rw [hpv] at KPR
          have e1 := awT_yes (le := le) (un := un) HXX.out HGG.out hg0
          have e2 := sdT_yes HGG.out hg0
          rw [hpv] at e1
          have hxl := awT_len le un S G2 k
          obtain ⟨sb0, sb1⟩ := sdT_bd HG2.out k
          obtain ⟨xs, hxs⟩ : ∃ x, awT le un S G2 k = x := ⟨_, rfl⟩
          obtain ⟨sold, hsold⟩ : ∃ x, sdT G2 k = x := ⟨_, rfl⟩
          rw [hxs] at e1 hxl HAW
          rw [hsold] at e2 sb0 sb1 HRR
          obtain ⟨va, vc, rfl⟩ := own_sl HAW.out
          have HAW2 := Lib.hid HAW.out
          have E1 := Lib.hid e1
          have E2 := Lib.hid e2
          have b0 : W1.cell? ⟨wr.heap.size, 0, none⟩ = some (.int .i64 bd) := cell_heap HBX1.out rfl
          have b1 : W1.cell? ⟨wr.heap.size, 1, none⟩ = some (.int .i64 num) := cell_heap HBX1.out rfl
          have b2 : W1.cell? ⟨wr.heap.size, 2, none⟩ = some (.int .i64 p) := cell_heap HBX1.out rfl
          have b3 : W1.cell? ⟨wr.heap.size, 3, none⟩ = some (.int .i64 a) := cell_heap HBX1.out rfl
          have b4 : W1.cell? ⟨wr.heap.size, 4, none⟩ = some (.bool f) := cell_heap HBX1.out rfl
          clear e1 e2 hpv hxs hsold
          go_upto_region 16 with fail
          clear c5 g0
          refine wp_region_any (by kernel_rfl) ?_
          change wpAny _ _ _ _ _ _ _ (World.drew _)
          refine vf_anyP_inv (J := fun listed a' w' => ∃ t75 t76 t77 t78 t79 t80 t81 t82 t83 t84 t85 t86 t87 t88 : Value, a' = { tmps := #[.agg #[.int .i64 am, .int .i64 le, .int .i64 sh, .bool un], .slice la n lc, .pointer (some ⟨w.heap.size, 0, none⟩), undef, .pointer (some ⟨w.heap.size + 1, 0, none⟩), .int .i64 0, .int .i64 0, .pointer (some ⟨B, 0, none⟩), .int .i64 lots, .int .i64 N1, .pointer (some ⟨w11.heap.size, 0, none⟩), .int .i64 k, .pointer (some ⟨wr.heap.size, 0, none⟩), .int .i64 (g * 1000), .agg #[.int .i64 am, .int .i64 le, .int .i64 sh, .bool un], .bool true, .bool false, undef, .slice la n lc, .int .i64 0, .int .i64 0, .bool false, undef, undef, .agg #[.int .i64 am, .int .i64 le, .int .i64 sh, .bool un], .slice la n lc, .slice (some ⟨bb, boff, none⟩) n sc, .slice la n lc, .int .i64 n, .slice (some ⟨gG, 0, none⟩) n n, t30, .pointer (some ⟨B, 0, none⟩), .pointer (some ⟨w.heap.size, 0, none⟩), .int .i64 am, .int .i64 lots, .pointer (some ⟨B, 0, none⟩), .int .i64 lots, .pointer (some ⟨w.heap.size, 2, none⟩), .int .i64 sh, .int .i64 (lots * sh), .int .i64 lf, .pointer (some ⟨B, 0, none⟩), t42, t43, .int .i64 N1, .pointer (some ⟨B, 0, none⟩), .int .i64 lots, .int .i64 N1, .int .i64 (lots - N1), .pointer (some ⟨B, 0, none⟩), .slice qa9 qn9 qc9, .int .i64 (svN (lots - N1) S C), .pointer (some ⟨B, 0, none⟩), .int .i64 cut, .agg #[.int .i64 cut, .int .i64 0, .slice none 0 0], .pointer (some ⟨B, 0, none⟩), .pointer (some ⟨B, 0, none⟩), .pointer (some ⟨B, 4, none⟩), .slice (some ⟨bb, boff, none⟩) n sc, .int .i64 n, .int .i64 k, .bool true, .int .i64 k, .pointer (some ⟨bb, boff + k * 5, none⟩), .agg #[.int .i64 bd, .int .i64 num, .int .i64 p, .int .i64 a, .bool f], .pointer (some ⟨B, 0, none⟩), .pointer (some ⟨B, 0, none⟩), .pointer (some ⟨B, 5, none⟩), .slice (some ⟨gG, 0, none⟩) n n, .int .i64 k, .pointer (some ⟨gG, k, none⟩), .int .i64 g, .int .i64 (g * 1000), .int .i64 (g * 1000), .bool true, t75, t76, t77, t78, t79, t80, t81, t82, t83, t84, t85, t86, t87, t88, u89, u90, u91, u92, u93, u94, undef], defers := [] } ∧ listed.size = 15 ∧ (listed.getD 0 false = true → t75 = .pointer (some ⟨w11.heap.size, 2, none⟩)) ∧ (listed.getD 1 false = true → t76 = .slice va xs.length vc) ∧ (listed.getD 2 false = true → t77 = .pointer (some ⟨wr.heap.size, 0, none⟩)) ∧ (listed.getD 3 false = true → t78 = .int .i64 bd) ∧ (listed.getD 4 false = true → t79 = .pointer (some ⟨wr.heap.size, 1, none⟩)) ∧ (listed.getD 5 false = true → t80 = .int .i64 num) ∧ (listed.getD 6 false = true → t81 = .int .i64 (g * 1000)) ∧ (listed.getD 7 false = true → t82 = .pointer (some ⟨B, 0, none⟩)) ∧ (listed.getD 8 false = true → t83 = .agg #[.int .i64 bd, .int .i64 num, .int .i64 p, .int .i64 a, .bool f]) ∧ (listed.getD 9 false = true → t84 = .int .i64 pv) ∧ (listed.getD 10 false = true → t85 = .agg #[.int .i64 bd, .int .i64 num, .int .i64 (g * 1000), .int .i64 pv]) ∧ (listed.getD 13 false = true → t88 = .pointer (some ⟨w11.heap.size, 2, none⟩)) ∧ (listed.getD 1 false = true → listed.getD 0 false = true) ∧ (listed.getD 3 false = true → listed.getD 2 false = true) ∧ (listed.getD 5 false = true → listed.getD 4 false = true) ∧ (listed.getD 9 false = true → listed.getD 7 false = true ∧ listed.getD 8 false = true) ∧ (listed.getD 10 false = true → listed.getD 3 false = true ∧ listed.getD 5 false = true ∧ listed.getD 6 false = true ∧ listed.getD 9 false = true) ∧ (listed.getD 11 false = true → listed.getD 10 false = true) ∧ (listed.getD 12 false = true → listed.getD 1 false = true ∧ listed.getD 11 false = true) ∧ (listed.getD 14 false = true → listed.getD 12 false = true ∧ listed.getD 13 false = true) ∧ E16 W1 w11.heap.size (w11.heap.size + 1) cut sold (.slice va xs.length vc) xs ⟨bd, num, g * 1000, pv⟩ (listed.getD 11 false) (listed.getD 12 false) (listed.getD 14 false) t86 t87 w') ?step ?fin _ _ _ _ ⟨_, _, _, _, _, _, _, _, _, _, _, _, _, _, rfl, rfl, fun h => by simp at h, fun h => by simp at h, fun h => by simp at h, fun h => by simp at h, fun h => by simp at h, fun h => by simp at h, fun h => by simp at h, fun h => by simp at h, fun h => by simp at h, fun h => by simp at h, fun h => by simp at h, fun h => by simp at h, fun h => by simp at h, fun h => by simp at h, fun h => by simp at h, fun h => by simp at h, fun h => by simp at h, fun h => by simp at h, fun h => by simp at h, fun h => by simp at h, E16.start HRR.out (bdr brefl)⟩ (by decide)
          case step =>
            rintro listed a' w' ⟨t75, t76, t77, t78, t79, t80, t81, t82, t83, t84, t85, t86, t87, t88, rfl, hsz, f0, f1, f2, f3, f4, f5, f6, f7, f8, f9, f10, f13, o1, o3, o5, o9, o10, o11, o12, o14, hvb⟩ i hi K hK
            obtain ⟨hni, o, ho, hdep⟩ := mem_ready.1 hi
            have hin : i < 15 := (Array.getElem?_eq_some_iff.1 ho).1
            have hself := vf_listed_self hni
            have hno := vf_listed_no hni
            rcases (show i = 0 ∨ i = 1 ∨ i = 2 ∨ i = 3 ∨ i = 4 ∨ i = 5 ∨ i = 6 ∨ i = 7 ∨ i = 8 ∨ i = 9 ∨ i = 10 ∨ i = 11 ∨ i = 12 ∨ i = 13 ∨ i = 14 by omega) with rfl | rfl | rfl | rfl | rfl | rfl | rfl | rfl | rfl | rfl | rfl | rfl | rfl | rfl | rfl
            · injection ho with ho
              subst ho
              have g11 : (listed.setIfInBounds 0 true).getD 11 false = listed.getD 11 false := getD_set_ne _ (by decide)
              have g12 : (listed.setIfInBounds 0 true).getD 12 false = listed.getD 12 false := getD_set_ne _ (by decide)
              have g14 : (listed.setIfInBounds 0 true).getD 14 false = listed.getD 14 false := getD_set_ne _ (by decide)
              have HVB := Lib.hid hvb
              clear hi hdep hvb
              refine vf_wpOpP_of rfl rfl ?_
              go_simp
              exact hK _ _ ⟨(.pointer (some ⟨w11.heap.size, 2, none⟩)), _, _, _, _, _, _, _, _, _, _, _, _, _, rfl, by simpa using hsz, fun _ => rfl, fun h => by first | exact f1 (vf_listed_ne (by decide) h) | rfl, fun h => by first | exact f2 (vf_listed_ne (by decide) h) | rfl, fun h => by first | exact f3 (vf_listed_ne (by decide) h) | rfl, fun h => by first | exact f4 (vf_listed_ne (by decide) h) | rfl, fun h => by first | exact f5 (vf_listed_ne (by decide) h) | rfl, fun h => by first | exact f6 (vf_listed_ne (by decide) h) | rfl, fun h => by first | exact f7 (vf_listed_ne (by decide) h) | rfl, fun h => by first | exact f8 (vf_listed_ne (by decide) h) | rfl, fun h => by first | exact f9 (vf_listed_ne (by decide) h) | rfl, fun h => by first | exact f10 (vf_listed_ne (by decide) h) | rfl, fun h => by first | exact f13 (vf_listed_ne (by decide) h) | rfl, fun h => vf_listed_keep (o1 (vf_listed_ne (by decide) h)), fun h => vf_listed_keep (o3 (vf_listed_ne (by decide) h)), fun h => vf_listed_keep (o5 (vf_listed_ne (by decide) h)), fun h => by have q := o9 (vf_listed_ne (by decide) h); exact ⟨vf_listed_keep q.1, vf_listed_keep q.2⟩, fun h => by have q := o10 (vf_listed_ne (by decide) h); exact ⟨vf_listed_keep q.1, vf_listed_keep q.2.1, vf_listed_keep q.2.2.1, vf_listed_keep q.2.2.2⟩, fun h => vf_listed_keep (o11 (vf_listed_ne (by decide) h)), fun h => by have q := o12 (vf_listed_ne (by decide) h); exact ⟨vf_listed_keep q.1, vf_listed_keep q.2⟩, fun h => by have q := o14 (vf_listed_ne (by decide) h); exact ⟨vf_listed_keep q.1, vf_listed_keep q.2⟩, by rw [g11, g12, g14]; exact HVB.out⟩
            · injection ho with ho
              subst ho
              have d0 := hdep ⟨0, .data⟩ (by simp) rfl
              have g11 : (listed.setIfInBounds 1 true).getD 11 false = listed.getD 11 false := getD_set_ne _ (by decide)
              have g12 : (listed.setIfInBounds 1 true).getD 12 false = listed.getD 12 false := getD_set_ne _ (by decide)
              have g14 : (listed.setIfInBounds 1 true).getD 14 false = listed.getD 14 false := getD_set_ne _ (by decide)
              obtain rfl := f0 d0
              have n14 : listed.getD 14 false = false := by
                cases h : listed.getD 14 false with
                | false => rfl
                | true => have q := (o12 (o14 h).1).1; rw [hno] at q; cases q
              rw [n14] at hvb
              have k1 : w'.cell? ⟨w11.heap.size, 2, none⟩ = some (.slice va xs.length vc) := cell_heap (hvb.box rfl) rfl
              have HVB := Lib.hid hvb
              clear hi hdep hvb
              refine vf_wpOpP_of rfl rfl ?_
              go_simp
              exact hK _ _ ⟨_, (.slice va xs.length vc), _, _, _, _, _, _, _, _, _, _, _, _, rfl, by simpa using hsz, fun h => by first | exact f0 (vf_listed_ne (by decide) h) | rfl, fun _ => rfl, fun h => by first | exact f2 (vf_listed_ne (by decide) h) | rfl, fun h => by first | exact f3 (vf_listed_ne (by decide) h) | rfl, fun h => by first | exact f4 (vf_listed_ne (by decide) h) | rfl, fun h => by first | exact f5 (vf_listed_ne (by decide) h) | rfl, fun h => by first | exact f6 (vf_listed_ne (by decide) h) | rfl, fun h => by first | exact f7 (vf_listed_ne (by decide) h) | rfl, fun h => by first | exact f8 (vf_listed_ne (by decide) h) | rfl, fun h => by first | exact f9 (vf_listed_ne (by decide) h) | rfl, fun h => by first | exact f10 (vf_listed_ne (by decide) h) | rfl, fun h => by first | exact f13 (vf_listed_ne (by decide) h) | rfl, fun _ => vf_listed_keep d0, fun h => vf_listed_keep (o3 (vf_listed_ne (by decide) h)), fun h => vf_listed_keep (o5 (vf_listed_ne (by decide) h)), fun h => by have q := o9 (vf_listed_ne (by decide) h); exact ⟨vf_listed_keep q.1, vf_listed_keep q.2⟩, fun h => by have q := o10 (vf_listed_ne (by decide) h); exact ⟨vf_listed_keep q.1, vf_listed_keep q.2.1, vf_listed_keep q.2.2.1, vf_listed_keep q.2.2.2⟩, fun h => vf_listed_keep (o11 (vf_listed_ne (by decide) h)), fun h => by have q := o12 (vf_listed_ne (by decide) h); exact ⟨vf_listed_keep q.1, vf_listed_keep q.2⟩, fun h => by have q := o14 (vf_listed_ne (by decide) h); exact ⟨vf_listed_keep q.1, vf_listed_keep q.2⟩, by rw [g11, g12, g14, n14]; exact HVB.out⟩
            · injection ho with ho
              subst ho
              have g11 : (listed.setIfInBounds 2 true).getD 11 false = listed.getD 11 false := getD_set_ne _ (by decide)
              have g12 : (listed.setIfInBounds 2 true).getD 12 false = listed.getD 12 false := getD_set_ne _ (by decide)
              have g14 : (listed.setIfInBounds 2 true).getD 14 false = listed.getD 14 false := getD_set_ne _ (by decide)
              have HVB := Lib.hid hvb
              clear hi hdep hvb
              refine vf_wpOpP_of rfl rfl ?_
              go_simp
              exact hK _ _ ⟨_, _, (.pointer (some ⟨wr.heap.size, 0, none⟩)), _, _, _, _, _, _, _, _, _, _, _, rfl, by simpa using hsz, fun h => by first | exact f0 (vf_listed_ne (by decide) h) | rfl, fun h => by first | exact f1 (vf_listed_ne (by decide) h) | rfl, fun _ => rfl, fun h => by first | exact f3 (vf_listed_ne (by decide) h) | rfl, fun h => by first | exact f4 (vf_listed_ne (by decide) h) | rfl, fun h => by first | exact f5 (vf_listed_ne (by decide) h) | rfl, fun h => by first | exact f6 (vf_listed_ne (by decide) h) | rfl, fun h => by first | exact f7 (vf_listed_ne (by decide) h) | rfl, fun h => by first | exact f8 (vf_listed_ne (by decide) h) | rfl, fun h => by first | exact f9 (vf_listed_ne (by decide) h) | rfl, fun h => by first | exact f10 (vf_listed_ne (by decide) h) | rfl, fun h => by first | exact f13 (vf_listed_ne (by decide) h) | rfl, fun h => vf_listed_keep (o1 (vf_listed_ne (by decide) h)), fun h => vf_listed_keep (o3 (vf_listed_ne (by decide) h)), fun h => vf_listed_keep (o5 (vf_listed_ne (by decide) h)), fun h => by have q := o9 (vf_listed_ne (by decide) h); exact ⟨vf_listed_keep q.1, vf_listed_keep q.2⟩, fun h => by have q := o10 (vf_listed_ne (by decide) h); exact ⟨vf_listed_keep q.1, vf_listed_keep q.2.1, vf_listed_keep q.2.2.1, vf_listed_keep q.2.2.2⟩, fun h => vf_listed_keep (o11 (vf_listed_ne (by decide) h)), fun h => by have q := o12 (vf_listed_ne (by decide) h); exact ⟨vf_listed_keep q.1, vf_listed_keep q.2⟩, fun h => by have q := o14 (vf_listed_ne (by decide) h); exact ⟨vf_listed_keep q.1, vf_listed_keep q.2⟩, by rw [g11, g12, g14]; exact HVB.out⟩
            · injection ho with ho
              subst ho
              have d2 := hdep ⟨2, .data⟩ (by simp) rfl
              have g11 : (listed.setIfInBounds 3 true).getD 11 false = listed.getD 11 false := getD_set_ne _ (by decide)
              have g12 : (listed.setIfInBounds 3 true).getD 12 false = listed.getD 12 false := getD_set_ne _ (by decide)
              have g14 : (listed.setIfInBounds 3 true).getD 14 false = listed.getD 14 false := getD_set_ne _ (by decide)
              obtain rfl := f2 d2
              have n12 : listed.getD 12 false = false := by
                cases h : listed.getD 12 false with
                | false => rfl
                | true => have q := (o10 (o11 (o12 h).2)).1; rw [hno] at q; cases q
              rw [n12] at hvb
              have q0 := keepB (hvb.pre rfl).2.1 b0
              have HVB := Lib.hid hvb
              clear hi hdep hvb
              refine vf_wpOpP_of rfl rfl ?_
              go_simp
              exact hK _ _ ⟨_, _, _, (.int .i64 bd), _, _, _, _, _, _, _, _, _, _, rfl, by simpa using hsz, fun h => by first | exact f0 (vf_listed_ne (by decide) h) | rfl, fun h => by first | exact f1 (vf_listed_ne (by decide) h) | rfl, fun h => by first | exact f2 (vf_listed_ne (by decide) h) | rfl, fun _ => rfl, fun h => by first | exact f4 (vf_listed_ne (by decide) h) | rfl, fun h => by first | exact f5 (vf_listed_ne (by decide) h) | rfl, fun h => by first | exact f6 (vf_listed_ne (by decide) h) | rfl, fun h => by first | exact f7 (vf_listed_ne (by decide) h) | rfl, fun h => by first | exact f8 (vf_listed_ne (by decide) h) | rfl, fun h => by first | exact f9 (vf_listed_ne (by decide) h) | rfl, fun h => by first | exact f10 (vf_listed_ne (by decide) h) | rfl, fun h => by first | exact f13 (vf_listed_ne (by decide) h) | rfl, fun h => vf_listed_keep (o1 (vf_listed_ne (by decide) h)), fun _ => vf_listed_keep d2, fun h => vf_listed_keep (o5 (vf_listed_ne (by decide) h)), fun h => by have q := o9 (vf_listed_ne (by decide) h); exact ⟨vf_listed_keep q.1, vf_listed_keep q.2⟩, fun h => by have q := o10 (vf_listed_ne (by decide) h); exact ⟨vf_listed_keep q.1, vf_listed_keep q.2.1, vf_listed_keep q.2.2.1, vf_listed_keep q.2.2.2⟩, fun h => vf_listed_keep (o11 (vf_listed_ne (by decide) h)), fun h => by have q := o12 (vf_listed_ne (by decide) h); exact ⟨vf_listed_keep q.1, vf_listed_keep q.2⟩, fun h => by have q := o14 (vf_listed_ne (by decide) h); exact ⟨vf_listed_keep q.1, vf_listed_keep q.2⟩, by rw [g11, g12, g14, n12]; exact HVB.out⟩
            · injection ho with ho
              subst ho
              have g11 : (listed.setIfInBounds 4 true).getD 11 false = listed.getD 11 false := getD_set_ne _ (by decide)
              have g12 : (listed.setIfInBounds 4 true).getD 12 false = listed.getD 12 false := getD_set_ne _ (by decide)
              have g14 : (listed.setIfInBounds 4 true).getD 14 false = listed.getD 14 false := getD_set_ne _ (by decide)
              have HVB := Lib.hid hvb
              clear hi hdep hvb
              refine vf_wpOpP_of rfl rfl ?_
              go_simp
              exact hK _ _ ⟨_, _, _, _, (.pointer (some ⟨wr.heap.size, 1, none⟩)), _, _, _, _, _, _, _, _, _, rfl, by simpa using hsz, fun h => by first | exact f0 (vf_listed_ne (by decide) h) | rfl, fun h => by first | exact f1 (vf_listed_ne (by decide) h) | rfl, fun h => by first | exact f2 (vf_listed_ne (by decide) h) | rfl, fun h => by first | exact f3 (vf_listed_ne (by decide) h) | rfl, fun _ => rfl, fun h => by first | exact f5 (vf_listed_ne (by decide) h) | rfl, fun h => by first | exact f6 (vf_listed_ne (by decide) h) | rfl, fun h => by first | exact f7 (vf_listed_ne (by decide) h) | rfl, fun h => by first | exact f8 (vf_listed_ne (by decide) h) | rfl, fun h => by first | exact f9 (vf_listed_ne (by decide) h) | rfl, fun h => by first | exact f10 (vf_listed_ne (by decide) h) | rfl, fun h => by first | exact f13 (vf_listed_ne (by decide) h) | rfl, fun h => vf_listed_keep (o1 (vf_listed_ne (by decide) h)), fun h => vf_listed_keep (o3 (vf_listed_ne (by decide) h)), fun h => vf_listed_keep (o5 (vf_listed_ne (by decide) h)), fun h => by have q := o9 (vf_listed_ne (by decide) h); exact ⟨vf_listed_keep q.1, vf_listed_keep q.2⟩, fun h => by have q := o10 (vf_listed_ne (by decide) h); exact ⟨vf_listed_keep q.1, vf_listed_keep q.2.1, vf_listed_keep q.2.2.1, vf_listed_keep q.2.2.2⟩, fun h => vf_listed_keep (o11 (vf_listed_ne (by decide) h)), fun h => by have q := o12 (vf_listed_ne (by decide) h); exact ⟨vf_listed_keep q.1, vf_listed_keep q.2⟩, fun h => by have q := o14 (vf_listed_ne (by decide) h); exact ⟨vf_listed_keep q.1, vf_listed_keep q.2⟩, by rw [g11, g12, g14]; exact HVB.out⟩
            · injection ho with ho
              subst ho
              have d4 := hdep ⟨4, .data⟩ (by simp) rfl
              have g11 : (listed.setIfInBounds 5 true).getD 11 false = listed.getD 11 false := getD_set_ne _ (by decide)
              have g12 : (listed.setIfInBounds 5 true).getD 12 false = listed.getD 12 false := getD_set_ne _ (by decide)
              have g14 : (listed.setIfInBounds 5 true).getD 14 false = listed.getD 14 false := getD_set_ne _ (by decide)
              obtain rfl := f4 d4
              have n12 : listed.getD 12 false = false := by
                cases h : listed.getD 12 false with
                | false => rfl
                | true => have q := (o10 (o11 (o12 h).2)).2.1; rw [hno] at q; cases q
              rw [n12] at hvb
              have q1 := keepB (hvb.pre rfl).2.1 b1
              have HVB := Lib.hid hvb
              clear hi hdep hvb
              refine vf_wpOpP_of rfl rfl ?_
              go_simp
              exact hK _ _ ⟨_, _, _, _, _, (.int .i64 num), _, _, _, _, _, _, _, _, rfl, by simpa using hsz, fun h => by first | exact f0 (vf_listed_ne (by decide) h) | rfl, fun h => by first | exact f1 (vf_listed_ne (by decide) h) | rfl, fun h => by first | exact f2 (vf_listed_ne (by decide) h) | rfl, fun h => by first | exact f3 (vf_listed_ne (by decide) h) | rfl, fun h => by first | exact f4 (vf_listed_ne (by decide) h) | rfl, fun _ => rfl, fun h => by first | exact f6 (vf_listed_ne (by decide) h) | rfl, fun h => by first | exact f7 (vf_listed_ne (by decide) h) | rfl, fun h => by first | exact f8 (vf_listed_ne (by decide) h) | rfl, fun h => by first | exact f9 (vf_listed_ne (by decide) h) | rfl, fun h => by first | exact f10 (vf_listed_ne (by decide) h) | rfl, fun h => by first | exact f13 (vf_listed_ne (by decide) h) | rfl, fun h => vf_listed_keep (o1 (vf_listed_ne (by decide) h)), fun h => vf_listed_keep (o3 (vf_listed_ne (by decide) h)), fun _ => vf_listed_keep d4, fun h => by have q := o9 (vf_listed_ne (by decide) h); exact ⟨vf_listed_keep q.1, vf_listed_keep q.2⟩, fun h => by have q := o10 (vf_listed_ne (by decide) h); exact ⟨vf_listed_keep q.1, vf_listed_keep q.2.1, vf_listed_keep q.2.2.1, vf_listed_keep q.2.2.2⟩, fun h => vf_listed_keep (o11 (vf_listed_ne (by decide) h)), fun h => by have q := o12 (vf_listed_ne (by decide) h); exact ⟨vf_listed_keep q.1, vf_listed_keep q.2⟩, fun h => by have q := o14 (vf_listed_ne (by decide) h); exact ⟨vf_listed_keep q.1, vf_listed_keep q.2⟩, by rw [g11, g12, g14, n12]; exact HVB.out⟩
            · injection ho with ho
              subst ho
              have g11 : (listed.setIfInBounds 6 true).getD 11 false = listed.getD 11 false := getD_set_ne _ (by decide)
              have g12 : (listed.setIfInBounds 6 true).getD 12 false = listed.getD 12 false := getD_set_ne _ (by decide)
              have g14 : (listed.setIfInBounds 6 true).getD 14 false = listed.getD 14 false := getD_set_ne _ (by decide)
              have HVB := Lib.hid hvb
              clear hi hdep hvb
              refine vf_wpOpP_of rfl rfl ?_
              go_simp
              exact hK _ _ ⟨_, _, _, _, _, _, (.int .i64 (g * 1000)), _, _, _, _, _, _, _, rfl, by simpa using hsz, fun h => by first | exact f0 (vf_listed_ne (by decide) h) | rfl, fun h => by first | exact f1 (vf_listed_ne (by decide) h) | rfl, fun h => by first | exact f2 (vf_listed_ne (by decide) h) | rfl, fun h => by first | exact f3 (vf_listed_ne (by decide) h) | rfl, fun h => by first | exact f4 (vf_listed_ne (by decide) h) | rfl, fun h => by first | exact f5 (vf_listed_ne (by decide) h) | rfl, fun _ => rfl, fun h => by first | exact f7 (vf_listed_ne (by decide) h) | rfl, fun h => by first | exact f8 (vf_listed_ne (by decide) h) | rfl, fun h => by first | exact f9 (vf_listed_ne (by decide) h) | rfl, fun h => by first | exact f10 (vf_listed_ne (by decide) h) | rfl, fun h => by first | exact f13 (vf_listed_ne (by decide) h) | rfl, fun h => vf_listed_keep (o1 (vf_listed_ne (by decide) h)), fun h => vf_listed_keep (o3 (vf_listed_ne (by decide) h)), fun h => vf_listed_keep (o5 (vf_listed_ne (by decide) h)), fun h => by have q := o9 (vf_listed_ne (by decide) h); exact ⟨vf_listed_keep q.1, vf_listed_keep q.2⟩, fun h => by have q := o10 (vf_listed_ne (by decide) h); exact ⟨vf_listed_keep q.1, vf_listed_keep q.2.1, vf_listed_keep q.2.2.1, vf_listed_keep q.2.2.2⟩, fun h => vf_listed_keep (o11 (vf_listed_ne (by decide) h)), fun h => by have q := o12 (vf_listed_ne (by decide) h); exact ⟨vf_listed_keep q.1, vf_listed_keep q.2⟩, fun h => by have q := o14 (vf_listed_ne (by decide) h); exact ⟨vf_listed_keep q.1, vf_listed_keep q.2⟩, by rw [g11, g12, g14]; exact HVB.out⟩
            · injection ho with ho
              subst ho
              have g11 : (listed.setIfInBounds 7 true).getD 11 false = listed.getD 11 false := getD_set_ne _ (by decide)
              have g12 : (listed.setIfInBounds 7 true).getD 12 false = listed.getD 12 false := getD_set_ne _ (by decide)
              have g14 : (listed.setIfInBounds 7 true).getD 14 false = listed.getD 14 false := getD_set_ne _ (by decide)
              have HVB := Lib.hid hvb
              clear hi hdep hvb
              refine vf_wpOpP_of rfl rfl ?_
              go_simp
              exact hK _ _ ⟨_, _, _, _, _, _, _, (.pointer (some ⟨B, 0, none⟩)), _, _, _, _, _, _, rfl, by simpa using hsz, fun h => by first | exact f0 (vf_listed_ne (by decide) h) | rfl, fun h => by first | exact f1 (vf_listed_ne (by decide) h) | rfl, fun h => by first | exact f2 (vf_listed_ne (by decide) h) | rfl, fun h => by first | exact f3 (vf_listed_ne (by decide) h) | rfl, fun h => by first | exact f4 (vf_listed_ne (by decide) h) | rfl, fun h => by first | exact f5 (vf_listed_ne (by decide) h) | rfl, fun h => by first | exact f6 (vf_listed_ne (by decide) h) | rfl, fun _ => rfl, fun h => by first | exact f8 (vf_listed_ne (by decide) h) | rfl, fun h => by first | exact f9 (vf_listed_ne (by decide) h) | rfl, fun h => by first | exact f10 (vf_listed_ne (by decide) h) | rfl, fun h => by first | exact f13 (vf_listed_ne (by decide) h) | rfl, fun h => vf_listed_keep (o1 (vf_listed_ne (by decide) h)), fun h => vf_listed_keep (o3 (vf_listed_ne (by decide) h)), fun h => vf_listed_keep (o5 (vf_listed_ne (by decide) h)), fun h => by have q := o9 (vf_listed_ne (by decide) h); exact ⟨vf_listed_keep q.1, vf_listed_keep q.2⟩, fun h => by have q := o10 (vf_listed_ne (by decide) h); exact ⟨vf_listed_keep q.1, vf_listed_keep q.2.1, vf_listed_keep q.2.2.1, vf_listed_keep q.2.2.2⟩, fun h => vf_listed_keep (o11 (vf_listed_ne (by decide) h)), fun h => by have q := o12 (vf_listed_ne (by decide) h); exact ⟨vf_listed_keep q.1, vf_listed_keep q.2⟩, fun h => by have q := o14 (vf_listed_ne (by decide) h); exact ⟨vf_listed_keep q.1, vf_listed_keep q.2⟩, by rw [g11, g12, g14]; exact HVB.out⟩
            · injection ho with ho
              subst ho
              have g11 : (listed.setIfInBounds 8 true).getD 11 false = listed.getD 11 false := getD_set_ne _ (by decide)
              have g12 : (listed.setIfInBounds 8 true).getD 12 false = listed.getD 12 false := getD_set_ne _ (by decide)
              have g14 : (listed.setIfInBounds 8 true).getD 14 false = listed.getD 14 false := getD_set_ne _ (by decide)
              have n12 : listed.getD 12 false = false := by
                cases h : listed.getD 12 false with
                | false => rfl
                | true => have q := (o9 (o10 (o11 (o12 h).2)).2.2.2).2; rw [hno] at q; cases q
              rw [n12] at hvb
              have q0 := keepB (hvb.pre rfl).2.1 b0
              have q1 := keepB (hvb.pre rfl).2.1 b1
              have q2 := keepB (hvb.pre rfl).2.1 b2
              have q3 := keepB (hvb.pre rfl).2.1 b3
              have q4 := keepB (hvb.pre rfl).2.1 b4
              have HVB := Lib.hid hvb
              clear hi hdep hvb
              refine vf_wpOpP_of rfl rfl ?_
              go_simp
              exact hK _ _ ⟨_, _, _, _, _, _, _, _, (.agg #[.int .i64 bd, .int .i64 num, .int .i64 p, .int .i64 a, .bool f]), _, _, _, _, _, rfl, by simpa using hsz, fun h => by first | exact f0 (vf_listed_ne (by decide) h) | rfl, fun h => by first | exact f1 (vf_listed_ne (by decide) h) | rfl, fun h => by first | exact f2 (vf_listed_ne (by decide) h) | rfl, fun h => by first | exact f3 (vf_listed_ne (by decide) h) | rfl, fun h => by first | exact f4 (vf_listed_ne (by decide) h) | rfl, fun h => by first | exact f5 (vf_listed_ne (by decide) h) | rfl, fun h => by first | exact f6 (vf_listed_ne (by decide) h) | rfl, fun h => by first | exact f7 (vf_listed_ne (by decide) h) | rfl, fun _ => rfl, fun h => by first | exact f9 (vf_listed_ne (by decide) h) | rfl, fun h => by first | exact f10 (vf_listed_ne (by decide) h) | rfl, fun h => by first | exact f13 (vf_listed_ne (by decide) h) | rfl, fun h => vf_listed_keep (o1 (vf_listed_ne (by decide) h)), fun h => vf_listed_keep (o3 (vf_listed_ne (by decide) h)), fun h => vf_listed_keep (o5 (vf_listed_ne (by decide) h)), fun h => by have q := o9 (vf_listed_ne (by decide) h); exact ⟨vf_listed_keep q.1, vf_listed_keep q.2⟩, fun h => by have q := o10 (vf_listed_ne (by decide) h); exact ⟨vf_listed_keep q.1, vf_listed_keep q.2.1, vf_listed_keep q.2.2.1, vf_listed_keep q.2.2.2⟩, fun h => vf_listed_keep (o11 (vf_listed_ne (by decide) h)), fun h => by have q := o12 (vf_listed_ne (by decide) h); exact ⟨vf_listed_keep q.1, vf_listed_keep q.2⟩, fun h => by have q := o14 (vf_listed_ne (by decide) h); exact ⟨vf_listed_keep q.1, vf_listed_keep q.2⟩, by rw [g11, g12, g14, n12]; exact HVB.out⟩
            · injection ho with ho
              subst ho
              have d7 := hdep ⟨7, .data⟩ (by simp) rfl
              have d8 := hdep ⟨8, .data⟩ (by simp) rfl
              have g11 : (listed.setIfInBounds 9 true).getD 11 false = listed.getD 11 false := getD_set_ne _ (by decide)
              have g12 : (listed.setIfInBounds 9 true).getD 12 false = listed.getD 12 false := getD_set_ne _ (by decide)
              have g14 : (listed.setIfInBounds 9 true).getD 14 false = listed.getD 14 false := getD_set_ne _ (by decide)
              obtain rfl := f7 d7
              obtain rfl := f8 d8
              have n12 : listed.getD 12 false = false := by
                cases h : listed.getD 12 false with
                | false => rfl
                | true => have q := (o10 (o11 (o12 h).2)).2.2.2; rw [hno] at q; cases q
              rw [n12] at hvb
              have HVB := Lib.hid hvb
              clear hi hdep hvb
              refine vf_wpOpP_of rfl rfl ?_
              go_simp
              refine (KPR.out _ (HVB.out.pre rfl).2.1).mono ?_
              rintro e w9 ⟨rfl, hb9⟩
              exact hK _ _ ⟨_, _, _, _, _, _, _, _, _, (.int .i64 pv), _, _, _, _, rfl, by simpa using hsz, fun h => by first | exact f0 (vf_listed_ne (by decide) h) | rfl, fun h => by first | exact f1 (vf_listed_ne (by decide) h) | rfl, fun h => by first | exact f2 (vf_listed_ne (by decide) h) | rfl, fun h => by first | exact f3 (vf_listed_ne (by decide) h) | rfl, fun h => by first | exact f4 (vf_listed_ne (by decide) h) | rfl, fun h => by first | exact f5 (vf_listed_ne (by decide) h) | rfl, fun h => by first | exact f6 (vf_listed_ne (by decide) h) | rfl, fun h => by first | exact f7 (vf_listed_ne (by decide) h) | rfl, fun h => by first | exact f8 (vf_listed_ne (by decide) h) | rfl, fun _ => rfl, fun h => by first | exact f10 (vf_listed_ne (by decide) h) | rfl, fun h => by first | exact f13 (vf_listed_ne (by decide) h) | rfl, fun h => vf_listed_keep (o1 (vf_listed_ne (by decide) h)), fun h => vf_listed_keep (o3 (vf_listed_ne (by decide) h)), fun h => vf_listed_keep (o5 (vf_listed_ne (by decide) h)), fun _ => ⟨vf_listed_keep d7, vf_listed_keep d8⟩, fun h => by have q := o10 (vf_listed_ne (by decide) h); exact ⟨vf_listed_keep q.1, vf_listed_keep q.2.1, vf_listed_keep q.2.2.1, vf_listed_keep q.2.2.2⟩, fun h => vf_listed_keep (o11 (vf_listed_ne (by decide) h)), fun h => by have q := o12 (vf_listed_ne (by decide) h); exact ⟨vf_listed_keep q.1, vf_listed_keep q.2⟩, fun h => by have q := o14 (vf_listed_ne (by decide) h); exact ⟨vf_listed_keep q.1, vf_listed_keep q.2⟩, by rw [g11, g12, g14, n12]; exact HVB.out.called hb9⟩
            · injection ho with ho
              subst ho
              have d3 := hdep ⟨3, .data⟩ (by simp) rfl
              have d5 := hdep ⟨5, .data⟩ (by simp) rfl
              have d6 := hdep ⟨6, .data⟩ (by simp) rfl
              have d9 := hdep ⟨9, .data⟩ (by simp) rfl
              have g11 : (listed.setIfInBounds 10 true).getD 11 false = listed.getD 11 false := getD_set_ne _ (by decide)
              have g12 : (listed.setIfInBounds 10 true).getD 12 false = listed.getD 12 false := getD_set_ne _ (by decide)
              have g14 : (listed.setIfInBounds 10 true).getD 14 false = listed.getD 14 false := getD_set_ne _ (by decide)
              obtain rfl := f3 d3
              obtain rfl := f5 d5
              obtain rfl := f6 d6
              obtain rfl := f9 d9
              have HVB := Lib.hid hvb
              clear hi hdep hvb
              refine vf_wpOpP_of rfl rfl ?_
              go_simp
              exact hK _ _ ⟨_, _, _, _, _, _, _, _, _, _, (.agg #[.int .i64 bd, .int .i64 num, .int .i64 (g * 1000), .int .i64 pv]), _, _, _, rfl, by simpa using hsz, fun h => by first | exact f0 (vf_listed_ne (by decide) h) | rfl, fun h => by first | exact f1 (vf_listed_ne (by decide) h) | rfl, fun h => by first | exact f2 (vf_listed_ne (by decide) h) | rfl, fun h => by first | exact f3 (vf_listed_ne (by decide) h) | rfl, fun h => by first | exact f4 (vf_listed_ne (by decide) h) | rfl, fun h => by first | exact f5 (vf_listed_ne (by decide) h) | rfl, fun h => by first | exact f6 (vf_listed_ne (by decide) h) | rfl, fun h => by first | exact f7 (vf_listed_ne (by decide) h) | rfl, fun h => by first | exact f8 (vf_listed_ne (by decide) h) | rfl, fun h => by first | exact f9 (vf_listed_ne (by decide) h) | rfl, fun _ => rfl, fun h => by first | exact f13 (vf_listed_ne (by decide) h) | rfl, fun h => vf_listed_keep (o1 (vf_listed_ne (by decide) h)), fun h => vf_listed_keep (o3 (vf_listed_ne (by decide) h)), fun h => vf_listed_keep (o5 (vf_listed_ne (by decide) h)), fun h => by have q := o9 (vf_listed_ne (by decide) h); exact ⟨vf_listed_keep q.1, vf_listed_keep q.2⟩, fun _ => ⟨vf_listed_keep d3, vf_listed_keep d5, vf_listed_keep d6, vf_listed_keep d9⟩, fun h => vf_listed_keep (o11 (vf_listed_ne (by decide) h)), fun h => by have q := o12 (vf_listed_ne (by decide) h); exact ⟨vf_listed_keep q.1, vf_listed_keep q.2⟩, fun h => by have q := o14 (vf_listed_ne (by decide) h); exact ⟨vf_listed_keep q.1, vf_listed_keep q.2⟩, by rw [g11, g12, g14]; exact HVB.out⟩
            · injection ho with ho
              subst ho
              have d10 := hdep ⟨10, .data⟩ (by simp) rfl
              have g11 : (listed.setIfInBounds 11 true).getD 11 false = true := hself
              have g12 : (listed.setIfInBounds 11 true).getD 12 false = listed.getD 12 false := getD_set_ne _ (by decide)
              have g14 : (listed.setIfInBounds 11 true).getD 14 false = listed.getD 14 false := getD_set_ne _ (by decide)
              obtain rfl := f10 d10
              have n12 : listed.getD 12 false = false := by
                cases h : listed.getD 12 false with
                | false => rfl
                | true => have q := (o12 h).2; rw [hno] at q; cases q
              rw [n12, hno] at hvb
              have HVB := Lib.hid hvb
              clear hi hdep hvb
              refine vf_wpOpP_of rfl rfl ?_
              go_simp
              exact hK _ _ ⟨_, _, _, _, _, _, _, _, _, _, _, _, _, _, rfl, by simpa using hsz, fun h => by first | exact f0 (vf_listed_ne (by decide) h) | rfl, fun h => by first | exact f1 (vf_listed_ne (by decide) h) | rfl, fun h => by first | exact f2 (vf_listed_ne (by decide) h) | rfl, fun h => by first | exact f3 (vf_listed_ne (by decide) h) | rfl, fun h => by first | exact f4 (vf_listed_ne (by decide) h) | rfl, fun h => by first | exact f5 (vf_listed_ne (by decide) h) | rfl, fun h => by first | exact f6 (vf_listed_ne (by decide) h) | rfl, fun h => by first | exact f7 (vf_listed_ne (by decide) h) | rfl, fun h => by first | exact f8 (vf_listed_ne (by decide) h) | rfl, fun h => by first | exact f9 (vf_listed_ne (by decide) h) | rfl, fun h => by first | exact f10 (vf_listed_ne (by decide) h) | rfl, fun h => by first | exact f13 (vf_listed_ne (by decide) h) | rfl, fun h => vf_listed_keep (o1 (vf_listed_ne (by decide) h)), fun h => vf_listed_keep (o3 (vf_listed_ne (by decide) h)), fun h => vf_listed_keep (o5 (vf_listed_ne (by decide) h)), fun h => by have q := o9 (vf_listed_ne (by decide) h); exact ⟨vf_listed_keep q.1, vf_listed_keep q.2⟩, fun h => by have q := o10 (vf_listed_ne (by decide) h); exact ⟨vf_listed_keep q.1, vf_listed_keep q.2.1, vf_listed_keep q.2.2.1, vf_listed_keep q.2.2.2⟩, fun _ => vf_listed_keep d10, fun h => by have q := o12 (vf_listed_ne (by decide) h); exact ⟨vf_listed_keep q.1, vf_listed_keep q.2⟩, fun h => by have q := o14 (vf_listed_ne (by decide) h); exact ⟨vf_listed_keep q.1, vf_listed_keep q.2⟩, by rw [g11, g12, g14, n12]; exact HVB.out.built⟩
            · injection ho with ho
              subst ho
              have d1 := hdep ⟨1, .data⟩ (by simp) rfl
              have d11 := hdep ⟨11, .data⟩ (by simp) rfl
              have g11 : (listed.setIfInBounds 12 true).getD 11 false = listed.getD 11 false := getD_set_ne _ (by decide)
              have g12 : (listed.setIfInBounds 12 true).getD 12 false = true := hself
              have g14 : (listed.setIfInBounds 12 true).getD 14 false = listed.getD 14 false := getD_set_ne _ (by decide)
              obtain rfl := f1 d1
              have n14 : listed.getD 14 false = false := by
                cases h : listed.getD 14 false with
                | false => rfl
                | true => have q := (o14 h).1; rw [hno] at q; cases q
              rw [n14, d11, hno] at hvb
              obtain ⟨v9, w9, hrun9, hvb9⟩ := hvb.appd HAW2.out (by omega) (by omega) 30
              refine vf_wpOpP_of rfl rfl ?_
              refine wp_append_run (.tmp 76) (.tmp 86) 30 30 rfl _ _ rfl rfl hrun9 ?_
              exact hK _ _ ⟨_, _, _, _, _, _, _, _, _, _, _, _, (v9), _, rfl, by simpa using hsz, fun h => by first | exact f0 (vf_listed_ne (by decide) h) | rfl, fun h => by first | exact f1 (vf_listed_ne (by decide) h) | rfl, fun h => by first | exact f2 (vf_listed_ne (by decide) h) | rfl, fun h => by first | exact f3 (vf_listed_ne (by decide) h) | rfl, fun h => by first | exact f4 (vf_listed_ne (by decide) h) | rfl, fun h => by first | exact f5 (vf_listed_ne (by decide) h) | rfl, fun h => by first | exact f6 (vf_listed_ne (by decide) h) | rfl, fun h => by first | exact f7 (vf_listed_ne (by decide) h) | rfl, fun h => by first | exact f8 (vf_listed_ne (by decide) h) | rfl, fun h => by first | exact f9 (vf_listed_ne (by decide) h) | rfl, fun h => by first | exact f10 (vf_listed_ne (by decide) h) | rfl, fun h => by first | exact f13 (vf_listed_ne (by decide) h) | rfl, fun h => vf_listed_keep (o1 (vf_listed_ne (by decide) h)), fun h => vf_listed_keep (o3 (vf_listed_ne (by decide) h)), fun h => vf_listed_keep (o5 (vf_listed_ne (by decide) h)), fun h => by have q := o9 (vf_listed_ne (by decide) h); exact ⟨vf_listed_keep q.1, vf_listed_keep q.2⟩, fun h => by have q := o10 (vf_listed_ne (by decide) h); exact ⟨vf_listed_keep q.1, vf_listed_keep q.2.1, vf_listed_keep q.2.2.1, vf_listed_keep q.2.2.2⟩, fun h => vf_listed_keep (o11 (vf_listed_ne (by decide) h)), fun _ => ⟨vf_listed_keep d1, vf_listed_keep d11⟩, fun h => by have q := o14 (vf_listed_ne (by decide) h); exact ⟨vf_listed_keep q.1, vf_listed_keep q.2⟩, by rw [g11, g12, g14, n14, d11]; exact hvb9⟩
            · injection ho with ho
              subst ho
              have g11 : (listed.setIfInBounds 13 true).getD 11 false = listed.getD 11 false := getD_set_ne _ (by decide)
              have g12 : (listed.setIfInBounds 13 true).getD 12 false = listed.getD 12 false := getD_set_ne _ (by decide)
              have g14 : (listed.setIfInBounds 13 true).getD 14 false = listed.getD 14 false := getD_set_ne _ (by decide)
              have HVB := Lib.hid hvb
              clear hi hdep hvb
              refine vf_wpOpP_of rfl rfl ?_
              go_simp
              exact hK _ _ ⟨_, _, _, _, _, _, _, _, _, _, _, _, _, (.pointer (some ⟨w11.heap.size, 2, none⟩)), rfl, by simpa using hsz, fun h => by first | exact f0 (vf_listed_ne (by decide) h) | rfl, fun h => by first | exact f1 (vf_listed_ne (by decide) h) | rfl, fun h => by first | exact f2 (vf_listed_ne (by decide) h) | rfl, fun h => by first | exact f3 (vf_listed_ne (by decide) h) | rfl, fun h => by first | exact f4 (vf_listed_ne (by decide) h) | rfl, fun h => by first | exact f5 (vf_listed_ne (by decide) h) | rfl, fun h => by first | exact f6 (vf_listed_ne (by decide) h) | rfl, fun h => by first | exact f7 (vf_listed_ne (by decide) h) | rfl, fun h => by first | exact f8 (vf_listed_ne (by decide) h) | rfl, fun h => by first | exact f9 (vf_listed_ne (by decide) h) | rfl, fun h => by first | exact f10 (vf_listed_ne (by decide) h) | rfl, fun _ => rfl, fun h => vf_listed_keep (o1 (vf_listed_ne (by decide) h)), fun h => vf_listed_keep (o3 (vf_listed_ne (by decide) h)), fun h => vf_listed_keep (o5 (vf_listed_ne (by decide) h)), fun h => by have q := o9 (vf_listed_ne (by decide) h); exact ⟨vf_listed_keep q.1, vf_listed_keep q.2⟩, fun h => by have q := o10 (vf_listed_ne (by decide) h); exact ⟨vf_listed_keep q.1, vf_listed_keep q.2.1, vf_listed_keep q.2.2.1, vf_listed_keep q.2.2.2⟩, fun h => vf_listed_keep (o11 (vf_listed_ne (by decide) h)), fun h => by have q := o12 (vf_listed_ne (by decide) h); exact ⟨vf_listed_keep q.1, vf_listed_keep q.2⟩, fun h => by have q := o14 (vf_listed_ne (by decide) h); exact ⟨vf_listed_keep q.1, vf_listed_keep q.2⟩, by rw [g11, g12, g14]; exact HVB.out⟩
            · injection ho with ho
              subst ho
              have d12 := hdep ⟨12, .data⟩ (by simp) rfl
              have d13 := hdep ⟨13, .data⟩ (by simp) rfl
              have g11 : (listed.setIfInBounds 14 true).getD 11 false = listed.getD 11 false := getD_set_ne _ (by decide)
              have g12 : (listed.setIfInBounds 14 true).getD 12 false = listed.getD 12 false := getD_set_ne _ (by decide)
              have g14 : (listed.setIfInBounds 14 true).getD 14 false = true := hself
              obtain rfl := f13 d13
              have d11 := (o12 d12).2
              rw [d12, d11, hno] at hvb
              obtain ⟨na, nc, rfl⟩ := own_sl (hvb.app rfl rfl).2
              have k14 : w'.cell? ⟨w11.heap.size, 2, none⟩ = some (.slice va xs.length vc) := cell_heap (hvb.box rfl) rfl
              have kf : w'.frozen? ⟨w11.heap.size, 2, none⟩ = false := frozen_of_row w' _ _ _ _ (hvb.box rfl)
              have kz : w11.heap.size < w'.heap.size := (Array.getElem?_eq_some_iff.1 (hvb.box rfl)).1
              have HVB := Lib.hid hvb
              clear hi hdep hvb
              refine vf_wpOpP_of rfl rfl ?_
              go_simp
              exact hK _ _ ⟨_, _, _, _, _, _, _, _, _, _, _, _, _, _, rfl, by simpa using hsz, fun h => by first | exact f0 (vf_listed_ne (by decide) h) | rfl, fun h => by first | exact f1 (vf_listed_ne (by decide) h) | rfl, fun h => by first | exact f2 (vf_listed_ne (by decide) h) | rfl, fun h => by first | exact f3 (vf_listed_ne (by decide) h) | rfl, fun h => by first | exact f4 (vf_listed_ne (by decide) h) | rfl, fun h => by first | exact f5 (vf_listed_ne (by decide) h) | rfl, fun h => by first | exact f6 (vf_listed_ne (by decide) h) | rfl, fun h => by first | exact f7 (vf_listed_ne (by decide) h) | rfl, fun h => by first | exact f8 (vf_listed_ne (by decide) h) | rfl, fun h => by first | exact f9 (vf_listed_ne (by decide) h) | rfl, fun h => by first | exact f10 (vf_listed_ne (by decide) h) | rfl, fun h => by first | exact f13 (vf_listed_ne (by decide) h) | rfl, fun h => vf_listed_keep (o1 (vf_listed_ne (by decide) h)), fun h => vf_listed_keep (o3 (vf_listed_ne (by decide) h)), fun h => vf_listed_keep (o5 (vf_listed_ne (by decide) h)), fun h => by have q := o9 (vf_listed_ne (by decide) h); exact ⟨vf_listed_keep q.1, vf_listed_keep q.2⟩, fun h => by have q := o10 (vf_listed_ne (by decide) h); exact ⟨vf_listed_keep q.1, vf_listed_keep q.2.1, vf_listed_keep q.2.2.1, vf_listed_keep q.2.2.2⟩, fun h => vf_listed_keep (o11 (vf_listed_ne (by decide) h)), fun h => by have q := o12 (vf_listed_ne (by decide) h); exact ⟨vf_listed_keep q.1, vf_listed_keep q.2⟩, fun _ => ⟨vf_listed_keep d12, vf_listed_keep d13⟩, by rw [g11, g12, g14, d12, d11]; exact HVB.out.stored⟩
          case fin =>
            rintro listed a' w' ⟨t75, t76, t77, t78, t79, t80, t81, t82, t83, t84, t85, t86, t87, t88, rfl, hsz, f0, f1, f2, f3, f4, f5, f6, f7, f8, f9, f10, f13, o1, o3, o5, o9, o10, o11, o12, o14, hvb⟩ hr
            have hfull := vf_ready_full hsz hr (by kernel_rfl)
            obtain rfl := f0 (hfull 0 (by decide))
            obtain rfl := f1 (hfull 1 (by decide))
            obtain rfl := f2 (hfull 2 (by decide))
            obtain rfl := f3 (hfull 3 (by decide))
            obtain rfl := f4 (hfull 4 (by decide))
            obtain rfl := f5 (hfull 5 (by decide))
            obtain rfl := f6 (hfull 6 (by decide))
            obtain rfl := f7 (hfull 7 (by decide))
            obtain rfl := f8 (hfull 8 (by decide))
            obtain rfl := f9 (hfull 9 (by decide))
            obtain rfl := f10 (hfull 10 (by decide))
            obtain rfl := f13 (hfull 13 (by decide))
            rw [hfull 11 (by decide), hfull 12 (by decide), hfull 14 (by decide)] at hvb
            clear o1 o3 o5 o9 o10 o11 o12 o14 hfull hr hsz
            obtain ⟨v', hro', haw', hsz', q1, q2, q3, hfr⟩ := hvb.fin rfl
            have hbq' : Below w11.heap.size w11 w' := ⟨q1.trans HBR.out.os, q2.trans HBR.out.tape, q3.trans HBR.out.output, by have := HBR.out.size; omega, fun b hb => (hfr b (by omega) (by omega) (fun e => by have := (HAW2.out.lt b e.symm).1; omega)).trans (HBR.out.block b hb)⟩
            have k1 : w'.cell? ⟨w11.heap.size, 1, none⟩ = some (.int .i64 sold) := cell_heap hro' rfl
            have kf : w'.frozen? ⟨w11.heap.size, 1, none⟩ = false := frozen_of_row w' _ _ _ _ hro'
            have kz : w11.heap.size < w'.heap.size := (Array.getElem?_eq_some_iff.1 hro').1
            have hs1 : wrap64 (sold + g * 1000) = sold + g * 1000 := IntWalk.wrap64_in _ (by omega)
            have hs2 : IntKind.i64.wrap (sold + g * 1000) = sold + g * 1000 := IntWalk.i64_in _ (by omega)
            have HRO' := Lib.hid hro'
            have HAW' := Lib.hid haw'
            have HBQ' := Lib.hid hbq'
            clear hvb hro' haw' hbq' hfr q1 q2 q3
            go_wp2
            go_roundw
            case rel => exact ⟨k + 1, v', by omega, by go_num, by rw [E2.out, heap_setCell_same _ _ 1 _ _ _ HRO'.out]; rfl, by rw [E1.out, List.length_append]; exact own_set (by decide) HRO'.out HAW'.out, HBQ'.out.setCell (Nat.le_refl _) _⟩
            case measure => simp [intOf]; omega
        · obtain rfl : n = k := by omega
          have hzr1 : w.heap.size + 1 < w11.heap.size := (Array.getElem?_eq_some_iff.1 HR11.out).1
          have hR := (hbr.block (w.heap.size + 1) hzr1).trans HR11.out
          obtain ⟨aw, haww⟩ : ∃ x, awT le un S G2 n = x := ⟨_, rfl⟩
          obtain ⟨sd, hsd⟩ : ∃ x, sdT G2 n = x := ⟨_, rfl⟩
          rw [haww] at haw
          rw [hsd] at hro
          obtain ⟨va, vc, rfl⟩ := own_sl haw
          have r0 : wr.cell? ⟨w11.heap.size, 0, none⟩ = some (.int .i64 cut) := cell_heap hro rfl
          have r1 : wr.cell? ⟨w11.heap.size, 1, none⟩ = some (.int .i64 sd) := cell_heap hro rfl
          have r2 : wr.cell? ⟨w11.heap.size, 2, none⟩ = some (.slice va aw.length vc) := cell_heap hro rfl
          have t0 : wr.cell? ⟨w.heap.size + 1, 0, none⟩ = some (.int .i64 0) := cell_heap hR rfl
          have t1 : wr.cell? ⟨w.heap.size + 1, 1, none⟩ = some (.int .i64 0) := cell_heap hR rfl
          have t2 : wr.cell? ⟨w.heap.size + 1, 2, none⟩ = some (.slice none 0 0) := cell_heap hR rfl
          have tf : ∀ o, wr.frozen? ⟨w.heap.size + 1, o, none⟩ = false := fun o => frozen_of_row wr _ _ _ _ hR
          have hne : ¬ w11.heap.size = w.heap.size + 1 := by omega
          have hzr2 : w.heap.size + 1 < wr.heap.size := by omega
          have hbw := HBW11.out.trans (hbr.mono HBW11.out.size)
          have hf1 := own_set (o := 0) (u := .int .i64 cut) (by decide) hR haw
          have hR1 := heap_setCell_same wr _ 0 _ _ (.int .i64 cut) hR
          have hf2 := own_set (o := 1) (u := .int .i64 sd) (by decide) hR1 hf1
          have hR2 := heap_setCell_same _ _ 1 _ _ (.int .i64 sd) hR1
          have hf3 := own_set (o := 2) (u := .slice va aw.length vc) (by decide) hR2 hf2
          have HFIN := Lib.hid (And.intro (ownsRow_baseZ hf3 (show w.heap.size ≤ w11.heap.size + 1 by omega)) (bset3 hbw (b := w.heap.size + 1) (by omega) (.int .i64 cut) (.int .i64 sd) (.slice va aw.length vc)))
          have HCC2 := Lib.hid haww
          have HSD := Lib.hid hsd
          clear hR haw hro hbr hbw hf1 hf2 hf3 hR1 hR2 haww hsd
          go_wp2
          refine bodyPost_ret (v := .tuple #[.agg #[.int .i64 cut, .int .i64 sd, .slice va aw.length vc], .int .i64 0]) (by simp [results, Try.results13, go_sem, *]) rfl ⟨.slice va aw.length vc, by rw [HCUT.out, HSN.out, HSD.out], by rw [HSN.out, HCC2.out]; exact HFIN.out.1, HFIN.out.2⟩
end Go.Proofs.Ytenbbmmbpjjjpaa
