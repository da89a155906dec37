/- AuctionMore: the two regions that draw their order, by what has been carried out. -/
import Derived.Test.YtenbbmmbpjjjpaaZL32M
import Derived.Test.YtenbbmmbpjjjpaaZAucV
import Derived.Test.YtenbbmmbpjjjpaaZL32Q
namespace Go.Proofs.Ytenbbmmbpjjjpaa
open Go.RowKit
set_option linter.unusedVariables false
set_option linter.unusedSimpArgs false
theorem lit_ne {g a b : Nat} (h : a ≠ b) : (⟨g, a, none⟩ : Addr) ≠ ⟨g, b, none⟩ := by
  intro e; injection e; omega
theorem off_ne {j q z i d : Nat} (hj : j ≠ q) (hi : i < z) (hd : d < z) : q * z + d ≠ j * z + i := by
  rcases Nat.lt_or_gt_of_ne hj with h | h
  · have := Nat.mul_le_mul_right z (show j + 1 ≤ q by omega)
    rw [Nat.succ_mul] at this
    omega
  · have := Nat.mul_le_mul_right z (show q + 1 ≤ j by omega)
    rw [Nat.succ_mul] at this
    omega
theorem Sl.setElem {α : Type} {z : Nat} {enc : α → List Value} (hz : ∀ a, (enc a).length = z) {P : Nat → Prop} {w : World} {g n c : Nat} {L : List α} (h : Sl z enc P w (.slice (some ⟨g, 0, none⟩) n c) L) {q d : Nat} {a a' : α} {v : Value} (hq : L[q]? = some a) (hd : d < z) (hv : (enc a')[d]? = some v) (hs : ∀ i, i ≠ d → (enc a')[i]? = (enc a)[i]?) :
    Sl z enc P (w.setCell ⟨g, q * z + d, none⟩ v) (.slice (some ⟨g, 0, none⟩) n c) (L.set q a') := by
  obtain ⟨ao', n', c', h1, h2, h3, h4, h5⟩ := h
  cases h1
  have hql := (List.getElem?_eq_some_iff.1 hq).1
  refine ⟨_, n, c, rfl, by rw [List.length_set]; exact h2, h3, h4, ?_⟩
  rcases h5 with h5 | ⟨b, off, k1, k2, k3, k4⟩
  · omega
  · cases k1
    refine .inr ⟨g, 0, rfl, k2, by simpa [World.setCell] using k3, fun j x hj i u hi => ?_⟩
    have hil : i < z := by have := (List.getElem?_eq_some_iff.1 hi).1; rw [hz] at this; exact this
    rw [Nat.zero_add]
    by_cases hjq : j = q
    · subst hjq
      rw [List.getElem?_set_self hql] at hj
      cases hj
      by_cases hid : i = d
      · subst hid
        rw [hv] at hi
        cases hi
        have hdl : i < (enc a).length := by rw [hz]; exact hd
        have := k4 j a hq i _ (List.getElem?_eq_getElem hdl)
        rw [Nat.zero_add] at this
        exact World.cell?_setCell_same _ _ _ this
      · rw [World.cell?_setCell_other _ _ _ _ (lit_ne (by omega))]
        rw [hs i hid] at hi
        have := k4 j a hq i u hi
        rw [Nat.zero_add] at this
        exact this
    · rw [List.getElem?_set_ne (fun e => hjq e.symm)] at hj
      rw [World.cell?_setCell_other _ _ _ _ (lit_ne (off_ne hjq hil hd))]
      have := k4 j x hj i u hi
      rw [Nat.zero_add] at this
      exact this
theorem cellOfHeap {w w' : World} {g o : Nat} (h : w'.heap[g]? = w.heap[g]?) : w'.cell? ⟨g, o, none⟩ = w.cell? ⟨g, o, none⟩ := by
  unfold World.cell?
  simp only [h]
theorem frozenOfHeap {w w' : World} {g o : Nat} (h : w'.heap[g]? = w.heap[g]?) : w'.frozen? ⟨g, o, none⟩ = w.frozen? ⟨g, o, none⟩ := by
  unfold World.frozen?
  simp only [h]
/-- the price of a bid of an own row is stored to -/
structure M10 (w0 : World) (sb base g n c k : Nat) (L : List Bid) (b : Bid) (bs ca ad mn st : Bool) (s d t m : Value) (w' : World) : Prop where
  pre : st = false → SrcOk w' sb ∧ w0.grownBy w' (some sb)
  bld : bs = true → ca = false → st = false ∧ ∃ gq, s = .slice (some ⟨gq, 0, none⟩) 3 3 ∧ ¬ gq = sb ∧ w'.cell? ⟨gq, 0, none⟩ = some (.int .i64 1) ∧ w'.cell? ⟨gq, 1, none⟩ = some (.int .i64 500) ∧ w'.cell? ⟨gq, 2, none⟩ = some (.int .i64 2000)
  cal : ca = true → ∃ δ : Int, 1 ≤ δ ∧ δ ≤ 2000 ∧ d = .int .i64 δ
  add : ad = true → ∃ δ : Int, 1 ≤ δ ∧ δ ≤ 2000 ∧ t = .int .i64 (b.p + δ)
  min : mn = true → ∃ q : Int, b.p ≤ q ∧ q ≤ 200000 ∧ m = .int .i64 q
  fin : st = true → ∃ q : Int, b.p ≤ q ∧ q ≤ 200000 ∧ SrcOk w' sb ∧ Sl 5 encBid (fun x => base ≤ x) w' (.slice (some ⟨g, 0, none⟩) n c) (L.set k ⟨b.bd, b.num, q, b.a, false⟩) ∧ w0.heap.size ≤ w'.heap.size ∧ w'.os = w0.os ∧ w'.tape = w0.tape ∧ w'.output = w0.output ∧ ∀ x, x < w0.heap.size → x ≠ sb → x ≠ g → w'.heap[x]? = w0.heap[x]?
section
variable {w0 w' : World} {sb base g n c k : Nat} {L : List Bid} {b : Bid} {bs ca ad mn st : Bool} {s d t m : Value}
theorem M10.start (hs : SrcOk w0 sb) : M10 w0 sb base g n c k L b false false false false false s d t m w0.drew :=
  ⟨fun _ => ⟨srcOk_drewN hs 1, ⟨rfl, rfl, rfl, Nat.le_refl _, fun i _ _ => rfl⟩⟩, fun h => (by cases h), fun h => (by cases h), fun h => (by cases h), fun h => (by cases h), fun h => (by cases h)⟩
theorem M10.keep (h : M10 w0 sb base g n c k L b bs ca ad mn false s d t m w') (hg : ¬ g = sb) (hl : g < w0.heap.size) : w'.heap[g]? = w0.heap[g]? :=
  (h.pre rfl).2.block g hl (by simpa using hg)
theorem M10.built (h : M10 w0 sb base g n c k L b false false ad mn false s d t m w') (T : TypeId) : M10 w0 sb base g n c k L b true false ad mn false (.slice (some ⟨w'.heap.size, 0, none⟩) 3 3) d t m (w'.alloc (.cells #[.int .i64 1, .int .i64 500, .int .i64 2000] T (0, 0))) := by
  obtain ⟨h1, h2⟩ := h.pre rfl
  exact ⟨fun _ => ⟨srcOk_alloc h1 _, grownBy_trans h2 (World.grownBy_alloc w' _ _)⟩, fun _ _ => ⟨rfl, w'.heap.size, rfl, by have := srcOk_lt h1; omega, World.cell?_alloc_at _ _ _ _ rfl, World.cell?_alloc_at _ _ _ _ rfl, World.cell?_alloc_at _ _ _ _ rfl⟩, fun h => (by cases h), h.add, h.min, fun h => (by cases h)⟩
theorem M10.called (h : M10 w0 sb base g n c k L b true false ad mn false s d t m w') {w9 : World} {δ : Int} (hm : δ ∈ [(1 : Int), 500, 2000]) (hs : SrcOk w9 sb) (hg : w'.grownBy w9 (some sb)) : M10 w0 sb base g n c k L b true true ad mn false s (.int .i64 δ) t m w9 := by
  obtain ⟨h1, h2⟩ := h.pre rfl
  have hd : 1 ≤ δ ∧ δ ≤ 2000 := by simp only [List.mem_cons, List.not_mem_nil, or_false] at hm; omega
  exact ⟨fun _ => ⟨hs, grownBy_trans h2 hg⟩, fun _ h => (by cases h), fun _ => ⟨δ, hd.1, hd.2, rfl⟩, h.add, h.min, fun h => (by cases h)⟩
theorem M10.added (h : M10 w0 sb base g n c k L b bs true false mn st s d t m w') {δ : Int} (h0 : 1 ≤ δ) (h1 : δ ≤ 2000) : M10 w0 sb base g n c k L b bs true true mn st s d (.int .i64 (b.p + δ)) m w' :=
  ⟨h.pre, fun _ h => (by cases h), h.cal, fun _ => ⟨δ, h0, h1, rfl⟩, h.min, h.fin⟩
theorem M10.mined (h : M10 w0 sb base g n c k L b bs ca true false st s d t m w') {q : Int} (h0 : b.p ≤ q) (h1 : q ≤ 200000) : M10 w0 sb base g n c k L b bs ca true true st s d t (.int .i64 q) w' :=
  ⟨h.pre, h.bld, h.cal, h.add, fun _ => ⟨q, h0, h1, rfl⟩, h.fin⟩
theorem M10.stored {q : Int} (h : M10 w0 sb base g n c k L b bs true ad true false s d t (.int .i64 q) w') (hq : b.p ≤ q ∧ q ≤ 200000) (hg : ¬ g = sb) (hl : g < w0.heap.size) (hb : base ≤ g) (hsb : sb < base) (hO : w0.ownsRow base 37 5 (.slice (some ⟨g, 0, none⟩) n c) n (flatE encBid L)) (hn : L.length = n) (hS : Sl 5 encBid (fun x => base ≤ x) w0 (.slice (some ⟨g, 0, none⟩) n c) L) (hk : L[k]? = some b) (hf : b.f = false) :
    M10 w0 sb base g n c k L b bs true ad true true s d t (.int .i64 q) (w'.setCell ⟨g, k * 5 + 2, none⟩ (.int .i64 q)) := by
  obtain ⟨h1, h2⟩ := h.pre rfl
  have hS' : Sl 5 encBid (fun x => base ≤ x) w' (.slice (some ⟨g, 0, none⟩) n c) L := by
    obtain ⟨ao', n', c', e1, e2, e3, e4, e5⟩ := hS
    cases e1
    refine ⟨_, n, c, rfl, e2, e3, e4, ?_⟩
    rcases e5 with e5 | ⟨b', off, k1, k2, k3, k4⟩
    · exact .inl e5
    · cases k1
      refine .inr ⟨g, 0, rfl, k2, Nat.lt_of_lt_of_le k3 h2.size, fun j x hj i u hi => ?_⟩
      have := k4 j x hj i u hi
      exact h2.cell this (by simpa using hg)
  obtain ⟨bd, num, p, a, f⟩ := b
  simp only at hf hq
  subst hf
  have hS2 := hS'.setElem encBid_len (q := k) (d := 2) (a' := ⟨bd, num, q, a, false⟩) (v := .int .i64 q) hk (by decide) rfl (fun i hi => by
    match i, hi with
    | 0, _ => rfl
    | 1, _ => rfl
    | 2, h => exact absurd rfl h
    | 3, _ => rfl
    | 4, _ => rfl
    | i + 5, _ => rfl)
  have hoth : ∀ x, x ≠ g → (w'.setCell ⟨g, k * 5 + 2, none⟩ (.int .i64 q)).heap[x]? = w'.heap[x]? := fun x hx => Below.heap_setCell _ _ _ _ hx
  have hsz : (w'.setCell ⟨g, k * 5 + 2, none⟩ (.int .i64 q)).heap.size = w'.heap.size := by simp [World.setCell]
  have hss : SrcOk (w'.setCell ⟨g, k * 5 + 2, none⟩ (.int .i64 q)) sb := srcOk_below h1 ((Below.refl base w').setCell (p := ⟨g, k * 5 + 2, none⟩) hb _) hsb
  exact ⟨fun h => (by cases h), fun _ h => (by cases h), h.cal, h.add, h.min, fun _ => ⟨q, hq.1, hq.2, hss, hS2, by rw [hsz]; exact h2.size, h2.os, h2.tape, h2.output, fun x hx h3 h4 => (hoth x h4).trans (h2.block x hx (by simpa using h3))⟩⟩
end
/-- a row without its place k is laid anew, by two appends -/
structure A12 (w0 : World) (k : Nat) (L : List Bid) (b1 b2 : Bool) (v1 v2 : Value) (w' : World) : Prop where
  pre : b2 = false → Below w0.heap.size w0 w'
  one : b1 = true → b2 = false → w'.ownsRow w0.heap.size 37 5 v1 (L.take k).length (flatE encBid (L.take k))
  two : b2 = true → Below w0.heap.size w0 w' ∧ w'.ownsRow w0.heap.size 37 5 v2 (L.take k ++ L.drop (k + 1)).length (flatE encBid (L.take k ++ L.drop (k + 1)))
section
variable {w0 w' : World} {k : Nat} {L : List Bid} {b1 b2 : Bool} {v1 v2 : Value}
theorem A12.start (hw : Below w0.heap.size w0 w') : A12 w0 k L false false v1 v2 w' := ⟨fun _ => hw, fun h => (by cases h), fun h => (by cases h)⟩
theorem flatE_take {α : Type} {z : Nat} {enc : α → List Value} (hz : ∀ a, (enc a).length = z) : ∀ (L : List α) (k : Nat), flatE enc (L.take k) = (flatE enc L).take (k * z)
  | [], k => by simp [flatE]
  | x :: L, 0 => by simp [flatE]
  | x :: L, k + 1 => by
    have ih := flatE_take hz L k
    simp only [flatE, List.take_succ_cons, List.flatMap_cons] at ih ⊢
    rw [ih, Nat.succ_mul, List.take_append, hz, List.take_of_length_le (l := enc x) (by rw [hz]; omega), Nat.add_sub_cancel]
theorem flatE_drop {α : Type} {z : Nat} {enc : α → List Value} (hz : ∀ a, (enc a).length = z) : ∀ (L : List α) (k : Nat), flatE enc (L.drop k) = (flatE enc L).drop (k * z)
  | [], k => by simp [flatE]
  | x :: L, 0 => by simp [flatE]
  | x :: L, k + 1 => by
    have ih := flatE_drop hz L k
    simp only [flatE, List.drop_succ_cons, List.flatMap_cons] at ih ⊢
    rw [ih, Nat.succ_mul, List.drop_append, hz, show List.drop (k * z + z) (enc x) = [] from List.drop_of_length_le (by rw [hz]; omega), List.nil_append, Nat.add_sub_cancel]
theorem flatE_app {α : Type} {enc : α → List Value} (A B : List α) : flatE enc (A ++ B) = flatE enc A ++ flatE enc B := by simp [flatE]
set_option maxRecDepth 100000 in
theorem A12.first (h : A12 w0 k L false false v1 v2 w') {b off c : Nat} (hc : ∀ (j : Nat) (u : Value), (flatE encBid L)[j]? = some u → w0.cell? ⟨b, off + j, none⟩ = some u) (hb : b < w0.heap.size) (hk : k ≤ L.length) (hl : L.length ≤ 100) (ty : TypeId) :
    ∃ v' w2, (Builtin.append_ #[28, 28] ty #[.slice none 0 0, .slice (some ⟨b, off, none⟩) k c]).run Try.prog w' = .ok v' w2 ∧ A12 w0 k L true false v' v2 w2 := by
  have h2 := h.pre rfl
  obtain ⟨i1, hi, hz0, hz1, hz2⟩ := info_parts infoBid
  obtain ⟨v', w2, hrun, ho2, hg2, _, hloc⟩ := run_append_own_at (P := Try.prog) w' w0.heap.size 28 ty 37 i1 (.agg #[.int .i64 0, .int .i64 0, .int .i64 0, .int .i64 0, .bool false]) 5 40 Try.underlying28 hi hz0 hz1 hz2 rfl (by decide) (.slice none 0 0) 0 [] (World.ownsRow_nil _ _ _ _) ⟨b, off, none⟩ k c (flatE encBid (L.take k))
    (by rw [flatE_length encBid_len, List.length_take]; congr 1; omega)
    (fun j u hj => by
      rw [flatE_take encBid_len] at hj
      have hj2 : (flatE encBid L)[j]? = some u := by
        have hlt := (List.getElem?_eq_some_iff.1 hj).1
        rw [List.length_take] at hlt
        rw [List.getElem?_take_of_lt (by omega)] at hj; exact hj
      rw [add_litZ]
      exact (h2.cell (p := ⟨b, off + j, none⟩) hb).trans (hc j u hj2))
    (oneE oneBid _) (by unfold maxLen; omega) (by omega) h2.size
  refine ⟨v', w2, hrun, fun _ => ⟨hg2.os.trans h2.os, hg2.tape.trans h2.tape, hg2.output.trans h2.output, Nat.le_trans h2.size hg2.size, fun x hx => (hg2.block x (by have := h2.size; omega) (by intro e; cases e)).trans (h2.block x hx)⟩, fun _ _ => ?_, fun h => (by cases h)⟩
  rw [Nat.zero_add, List.nil_append] at ho2
  have : (L.take k).length = k := by rw [List.length_take]; omega
  rw [this]; exact ho2
set_option maxRecDepth 100000 in
theorem A12.second (h : A12 w0 k L true false v1 v2 w') {b off oo c : Nat} (hoo : L.length = k + 1 ∨ oo = off + (k + 1) * 5) (hc : ∀ (j : Nat) (u : Value), (flatE encBid L)[j]? = some u → w0.cell? ⟨b, off + j, none⟩ = some u) (hb : b < w0.heap.size) (hk : k < L.length) (hl : L.length ≤ 100) (ty : TypeId) :
    ∃ v' w2, (Builtin.append_ #[28, 28] ty #[v1, .slice (some ⟨b, oo, none⟩) (L.length - (k + 1)) c]).run Try.prog w' = .ok v' w2 ∧ A12 w0 k L true true v1 v' w2 := by
  have h2 := h.pre rfl
  have h3 := h.one rfl rfl
  obtain ⟨i1, hi, hz0, hz1, hz2⟩ := info_parts infoBid
  obtain ⟨v', w2, hrun, ho2, hg2, _, hloc⟩ := run_append_own_at (P := Try.prog) w' w0.heap.size 28 ty 37 i1 (.agg #[.int .i64 0, .int .i64 0, .int .i64 0, .int .i64 0, .bool false]) 5 40 Try.underlying28 hi hz0 hz1 hz2 rfl (by decide) v1 _ _ h3 ⟨b, oo, none⟩ (L.length - (k + 1)) c (flatE encBid (L.drop (k + 1)))
    (by rw [flatE_length encBid_len, List.length_drop])
    (fun j u hj => by
      rcases hoo with hoo | rfl
      · rw [List.drop_of_length_le (by omega)] at hj; simp [flatE] at hj
      rw [flatE_drop encBid_len, List.getElem?_drop] at hj
      rw [add_litZ, Nat.add_assoc]
      exact (h2.cell (p := ⟨b, off + ((k + 1) * 5 + j), none⟩) hb).trans (hc _ u hj))
    (oneE oneBid _) (by rw [List.length_take]; unfold maxLen; omega) (by rw [List.length_take]; omega) h2.size
  refine ⟨v', w2, hrun, fun h => (by cases h), fun _ h => (by cases h), fun _ => ⟨⟨hg2.os.trans h2.os, hg2.tape.trans h2.tape, hg2.output.trans h2.output, Nat.le_trans h2.size hg2.size, fun x hx => (hg2.block x (by have := h2.size; omega) (fun e => by have := (h3.lt x e.symm).1; omega)).trans (h2.block x hx)⟩, ?_⟩⟩
  rw [flatE_app, List.length_append, List.length_drop]; exact ho2
end
end Go.Proofs.Ytenbbmmbpjjjpaa
