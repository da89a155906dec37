/- `append([]T(nil), xs...)`: a copy of a row, inside a region. A region that draws its order of evaluation, inside a fence (a round of a range over a function too): by an invariant on what has been carried out. The source's BentRegister. (under way: the copies stand) -/
import Derived.Test.YtpoidaenkjjdfaaZRegN
import Derived.Laws.AppendOwnNone
import Derived.Test.YtpoidaenkjjdfaaZRgP
import Derived.Test.YtpoidaenkjjdfaaZSetEl
import Derived.Test.YtpoidaenkjjdfaaZSrcOdd
import Derived.Test.YtpoidaenkjjdfaaZSrcReg
namespace Go.Proofs.Ytpoidaenkjjdfaa
open Go.RowKit
set_option linter.unusedVariables false
theorem run_append_nil {P : Program} {w : World} (t ty e : TypeId) (i : TypeInfo) (c : Nat) (ht : P.underlying t = some (.slice e)) (hi : P.info? e = some i) :
    (Builtin.append_ #[t, t] ty #[.slice none 0 0, .slice none 0 c]).run P w = .ok (.slice none 0 0) w := by
  simp [Builtin.append_, run_underlying ht, sizeOf, typeInfo, hi, Builtin.lenOf, Builtin.firstCells]
theorem wpList_copy_row {P : Program} {w : World} {ops : Array Oper} {rest : List Oper} {o : Oper} {a : Act} {Q : Exit → Act → World → Prop} {α : Type} {z : Nat} {enc : α → List Value} {Pp : Nat → Prop} {L : List α}
    (hz : ∀ a, (enc a).length = z) (hone : ∀ a, ∀ u ∈ enc a, u.oneCell' = true) (hgd : o.guard = none) (x : Operand) (t : TypeId)
    (ho : o.op = .call { callee := .builtin .append, args := #[.const (.slice none 0 0), x], argTypes := #[t, t] })
    (e : TypeId) (i : TypeInfo) (zv : Value) (bytes : Nat) (ht : P.underlying t = some (.slice e)) (hi : P.info? e = some i) (hz0 : i.zero = some zv) (hz1 : i.size = z) (hz2 : i.bytes = bytes) (hzs : zv.cells.size = z) (hsz : 0 < z) (hby : bytes ≤ 1000)
    (v : Value) (hx : a.eval x = v) (hsl : Sl z enc Pp w v L) (hl : L.length ≤ 1000000)
    (h : ∀ v' w', w'.ownsRow w.heap.size e z v' L.length (flatE enc L) → Below w.heap.size w w' → wpList P ops Q rest (a.put o.dst v') w') : wpList P ops Q (o :: rest) a w := by
  obtain ⟨ao, n, c, rfl, hn, hnc, hcm, hk⟩ := hsl
  cases ao with
  | none =>
    have hn0 : n = 0 := by
      rcases hk with hk | ⟨b, off, hk, _⟩
      · exact hk
      · cases hk
    subst hn0
    have hL : L = [] := List.eq_nil_of_length_eq_zero hn
    subst hL
    refine wpList_plain hgd fun K hK => ?_
    have hrun := run_append_nil (P := P) (w := w) t o.type e i c ht hi
    have hs : a.eval (.const (.slice none 0 0)) = .slice none 0 0 := rfl
    unfold Oper.wp
    simp [execOp, ho, resolve, invoke, builtin, hs, hx, hrun, Result.andThen]
    exact hK _ _ (h _ _ (World.ownsRow_nil _ _ _ _) (Below.refl _ _))
  | some ad =>
    have fin : ∀ v' w', w'.ownsRow w.heap.size e z v' (0 + n) ([] ++ flatE enc L) → w.grownBy w' (Value.slice none 0 0).ownBlock → (v' = .slice none 0 0 ↔ (Value.slice none 0 0) = .slice none 0 0 ∧ n = 0) → wpList P ops Q rest (a.put o.dst v') w' := fun v' w' h1 h2 _ => by
      rw [Nat.zero_add, List.nil_append, ← hn] at h1
      exact h v' w' h1 ⟨h2.os, h2.tape, h2.output, h2.size, fun k hk => h2.block k hk (show some k ≠ none from by simp)⟩
    have hfl : (flatE enc L).length = n * z := by rw [flatE_length hz, hn]
    have hmx : n ≤ maxLen := by omega
    have hbn : (0 + n) * bytes ≤ 140737488355328 := by
      have : (0 + n) * bytes ≤ 1000000 * 1000 := Nat.mul_le_mul (by omega) hby
      omega
    have hcells : ∀ j u, (flatE enc L)[j]? = some u → w.cell? (ad.add j) = some u := by
      rcases hk with hk | ⟨b, off, hk, -, -, hc⟩
      · subst hk
        have hL : L = [] := List.eq_nil_of_length_eq_zero hn
        subst hL
        intro j u hj
        simp [flatE] at hj
      · cases hk
        intro j u hj
        rw [add_litZ]
        exact flatE_cells hz L off hc j u hj
    exact wpList_append_own _ hgd _ _ t ho w.heap.size e i zv z bytes ht hi hz0 hz1 hz2 hzs hsz _ 0 [] rfl (World.ownsRow_nil _ _ _ _) ad n c (flatE enc L) hx hfl hcells (oneE hone L) (by omega) hbn (Nat.le_refl _) fin
end Go.Proofs.Ytpoidaenkjjdfaa
namespace Go.Proofs.Ytpoidaenkjjdfaa
open Go.RowKit
set_option linter.unusedVariables false
def unl (l : Array Bool) : Nat := l.toList.count false
theorem unl_set {l : Array Bool} {i : Nat} (h : l.getD i true = false) : unl (l.setIfInBounds i true) + 1 = unl l := by
  have hi : i < l.size := by
    rcases Nat.lt_or_ge i l.size with hi | hi
    · exact hi
    · rw [Array.getD_eq_getD_getElem?, Array.getElem?_eq_none hi] at h; simp at h
  have he : l[i] = false := by rw [Array.getD_eq_getD_getElem?, Array.getElem?_eq_getElem hi] at h; simpa using h
  have he' : l.toList[i] = false := by simpa using he
  have hm : 0 < l.toList.count false := List.count_pos_iff.2 (by rw [← he']; exact List.getElem_mem _)
  have hc := List.count_set (a := true) (b := false) (l := l.toList) (i := i) (by simpa using hi)
  have e : (l.setIfInBounds i true).toList = l.toList.set i true := by simp
  rw [if_pos (by rw [he']; rfl), if_neg (by decide)] at hc
  unfold unl
  rw [e, hc]
  omega
theorem unl_pos {l : Array Bool} {i : Nat} (h : l.getD i true = false) : 0 < unl l := by have := unl_set h; omega
section
variable {F : Fence} {n : Nat} {P : Program} {ops : Array Oper} {Q : Exit → Act → World → Prop} {md : Region.Mode}
theorem anyIn_inv {J : Array Bool → Act → World → Prop}
    (step : ∀ listed a w, J listed a w → ∀ i, i ∈ Region.ready md ops listed → ∀ K : Act → World → Prop, (∀ a' w', J (listed.setIfInBounds i true) a' w' → K a' w') → wpOpIn F n P ops Q i K a w)
    (fin : ∀ listed a w, J listed a w → Region.ready md ops listed = [] → Q .normal a w) :
    ∀ (fuel : Nat) (listed : Array Bool) (a : Act) (w : World), J listed a w → unl listed ≤ fuel → wpAnyIn F n P md ops Q fuel listed a w
  | 0, listed, a, w, hJ, hf => by
    have hr : Region.ready md ops listed = [] := List.eq_nil_iff_forall_not_mem.2 fun j hj => by
      have := unl_pos (mem_ready.1 hj).1; omega
    exact ⟨hr, fin _ _ _ hJ hr⟩
  | fuel + 1, listed, a, w, hJ, hf =>
    ⟨fun hr => fin _ _ _ hJ hr, fun i hi => step listed a w hJ i hi _ fun a' w' h => anyIn_inv step fin fuel _ a' w' h (by have := unl_set (mem_ready.1 hi).1; omega)⟩
theorem wpOpIn_of {i : Nat} {o : Oper} {K : Act → World → Prop} {a : Act} {w : World} (ho : ops[i]? = some o) (hw : Region.wanted o (yielded ops a.tmps) = true) (h : o.wpIn F n P a w K Q) : wpOpIn F n P ops Q i K a w := by
  unfold wpOpIn; rw [ho]; simp only [hw, if_true]; exact h
def backB (md : Region.Mode) (ops : Array Oper) : Bool := (List.range ops.size).all fun j => match ops[j]? with | some o => o.after.all (fun e => !Region.binds md e || decide (e.on < j)) | none => true
theorem ready_full {listed : Array Bool} (hs : listed.size = ops.size) (hr : Region.ready md ops listed = []) (hb : backB md ops = true) : ∀ j, j < ops.size → listed.getD j false = true := by
  intro j
  induction j using Nat.strongRecOn with
  | ind j ih =>
    intro hj
    cases hl : listed.getD j true with
    | true =>
      have hj' : j < listed.size := by omega
      rw [Array.getD_eq_getD_getElem?, Array.getElem?_eq_getElem hj'] at hl ⊢
      simpa using hl
    | false =>
      exfalso
      have hbj := List.all_eq_true.1 hb j (List.mem_range.2 hj)
      rw [Array.getElem?_eq_getElem hj] at hbj
      have hm : j ∈ Region.ready md ops listed := mem_ready.2 ⟨hl, ops[j], Array.getElem?_eq_getElem hj, fun e he hbi => by
        have := (Array.all_eq_true_iff_forall_mem.1 hbj) e he
        rw [hbi] at this
        have hlt : e.on < j := by simpa using this
        exact ih e.on hlt (by omega)⟩
      rw [hr] at hm
      cases hm
end
theorem listed_ne {l : Array Bool} {i j : Nat} (h : i ≠ j) (hh : (l.setIfInBounds i true).getD j false = true) : l.getD j false = true := by rw [getD_set_ne _ h] at hh; exact hh
theorem listed_keep {l : Array Bool} {i j : Nat} (hh : l.getD j false = true) : (l.setIfInBounds i true).getD j false = true := getD_set_true hh
theorem listed_no {l : Array Bool} {i : Nat} (h : l.getD i true = false) : l.getD i false = false := by
  rw [Array.getD_eq_getD_getElem?] at h ⊢
  cases he : l[i]? with
  | none => rw [he] at h; simp at h
  | some b => rw [he] at h; simpa using h
theorem listed_self {l : Array Bool} {i : Nat} (h : l.getD i true = false) : (l.setIfInBounds i true).getD i false = true := by
  have hi : i < l.size := by
    rcases Nat.lt_or_ge i l.size with hi | hi
    · exact hi
    · rw [Array.getD_eq_getD_getElem?, Array.getElem?_eq_none hi] at h; simp at h
  rw [Array.getD_eq_getD_getElem?, Array.getElem?_setIfInBounds]
  simp [hi]
end Go.Proofs.Ytpoidaenkjjdfaa
namespace Go.Proofs.Ytpoidaenkjjdfaa
open Go.RowKit
set_option linter.unusedVariables false
set_option linter.unusedSimpArgs false
/-- what BentRegister leaves: some register in rows of its own -/
def BentW (R : Reg) (sb : Nat) (w : World) (e : Ending) (w' : World) : Prop :=
  ∃ us uh um R', e = .returned (.agg #[us, uh, um]) ∧ (R'.secs.length = R.secs.length ∧ R'.hs.length ≤ R.hs.length + 1 ∧ R'.ms.length = R.ms.length) ∧ RgIn (fun b => w.heap.size + 2 ≤ b) w' us uh um R' ∧ SrcOk w' sb ∧ w.grownBy w' (some sb)
/-- a row of its own: as a slice, and free to be stored to -/
def Mine {α : Type} (z : Nat) (enc : α → List Value) (b b' : Nat) (w : World) (v : Value) (L : List α) : Prop :=
  Sl z enc (fun k => b ≤ k ∧ k < b') w v L ∧ (L = [] ∨ ∃ g c, v = .slice (some ⟨g, 0, none⟩) L.length c ∧ (b ≤ g ∧ g < b') ∧ ∀ o, w.frozen? ⟨g, o, none⟩ = false)
theorem Mine.own {α : Type} {z : Nat} {enc : α → List Value} (hz : ∀ a, (enc a).length = z) {w : World} {base : Nat} {e : TypeId} {v : Value} {L : List α} (h : w.ownsRow base e z v L.length (flatE enc L)) : Mine z enc base w.heap.size w v L := by
  refine ⟨(Sl.own (P := fun k => base ≤ k) hz h rfl fun b hb => hb).mono fun b hb hl => ⟨hb, hl⟩, ?_⟩
  cases L with
  | nil => exact .inl rfl
  | cons x L =>
    obtain ⟨g, c, rfl, h1, h2, -, -, -, h3⟩ := ownZ_shape h (by simp)
    exact .inr ⟨g, c, rfl, ⟨h1, h2⟩, h3⟩
theorem Mine.keep {α : Type} {z : Nat} {enc : α → List Value} {b b' : Nat} {w w' : World} {v : Value} {L : List α} (h : Mine z enc b b' w v L) (hb' : b' ≤ w.heap.size) (hs : w.heap.size ≤ w'.heap.size) (hk : ∀ k, b ≤ k → k < b' → w'.heap[k]? = w.heap[k]?) : Mine z enc b b' w' v L := by
  refine ⟨h.1.block hs fun k hp _ => hk k hp.1 hp.2, ?_⟩
  rcases h.2 with h2 | ⟨g, c, h3, h4, h5⟩
  · exact .inl h2
  · refine .inr ⟨g, c, h3, h4, fun o => ?_⟩
    have := h5 o
    unfold World.frozen? at this ⊢
    simp only [hk g h4.1 h4.2]
    exact this
section
variable {P : Program} {ops : Array Oper} {Q : Exit → Act → World → Prop} {md : Region.Mode}
theorem anyP_inv {J : Array Bool → Act → World → Prop}
    (step : ∀ listed a w, J listed a w → ∀ i, i ∈ Region.ready md ops listed → ∀ K : Act → World → Prop, (∀ a' w', J (listed.setIfInBounds i true) a' w' → K a' w') → wpOp P ops Q i K a w)
    (fin : ∀ listed a w, J listed a w → Region.ready md ops listed = [] → Q .normal a w) :
    ∀ (fuel : Nat) (listed : Array Bool) (a : Act) (w : World), J listed a w → unl listed ≤ fuel → wpAny P md ops Q fuel listed a w
  | 0, listed, a, w, hJ, hf => by
    have hr : Region.ready md ops listed = [] := List.eq_nil_iff_forall_not_mem.2 fun j hj => by
      have := unl_pos (mem_ready.1 hj).1; omega
    exact ⟨hr, fin _ _ _ hJ hr⟩
  | fuel + 1, listed, a, w, hJ, hf =>
    ⟨fun hr => fin _ _ _ hJ hr, fun i hi => step listed a w hJ i hi _ fun a' w' h => anyP_inv step fin fuel _ a' w' h (by have := unl_set (mem_ready.1 hi).1; omega)⟩
theorem wpOpP_of {i : Nat} {o : Oper} {K : Act → World → Prop} {a : Act} {w : World} (ho : ops[i]? = some o) (hw : Region.wanted o (yielded ops a.tmps) = true) (h : o.wp P a w K Q) : wpOp P ops Q i K a w := by
  unfold wpOp; rw [ho]; simp only [hw, if_true]; exact .inl h
end
theorem cell_gr {w w' : World} {sb b i : Nat} {v : Value} (hG : w.grownBy w' (some sb)) (hb : b ≠ sb) (h : w.cell? ⟨b, i, none⟩ = some v) : w'.cell? ⟨b, i, none⟩ = some v := by
  have hl := World.block_lt_of_cell? w ⟨b, i, none⟩ h
  have hk := hG.block b hl (by simp; omega)
  unfold World.cell? at h ⊢
  simp only [hk]
  exact h
structure At4 (A sb b0 b1 b2 b3 b4 b5 : Nat) (w wx : World) (us uh um : Value) (S : List Sec) (H : List Hold) (M : List Mv) : Prop where
  box : wx.heap[A]? = some (.cells #[us, uh, um] 27 (0, 0))
  res : wx.heap[A + 1]? = some (.cells #[.slice none 0 0, .slice none 0 0, .slice none 0 0] 27 (0, 0))
  s : Mine 7 encSec b0 b1 wx us S
  h : Mine 3 encHold b2 b3 wx uh H
  m : Mine 7 encMv b4 b5 wx um M
  so : SrcOk wx sb
  g : w.grownBy wx (some sb)
  aw : A = w.heap.size
  lt : sb < A
  l0 : A + 2 ≤ b0
  l1 : b1 ≤ b2
  l2 : b3 ≤ b4
  l3 : b5 ≤ wx.heap.size
  l4 : b0 ≤ b1 ∧ b2 ≤ b3 ∧ b4 ≤ b5
section
variable {A sb b0 b1 b2 b3 b4 b5 : Nat} {w wx wy : World} {us uh um : Value} {S : List Sec} {H : List Hold} {M : List Mv}
theorem At4.grown (h : At4 A sb b0 b1 b2 b3 b4 b5 w wx us uh um S H M) (hG : wx.grownBy wy (some sb)) (hS : SrcOk wy sb) : At4 A sb b0 b1 b2 b3 b4 b5 w wy us uh um S H M := by
  obtain ⟨h1, h2, h3, h4, h5, h6, h7, h8, h9, k0, k1, k2, k3, k4⟩ := h
  have l1 := (Array.getElem?_eq_some_iff.1 h1).1
  have l2 := (Array.getElem?_eq_some_iff.1 h2).1
  have z := hG.size
  exact ⟨(hG.block _ l1 (by simp; omega)).trans h1, (hG.block _ l2 (by simp; omega)).trans h2, h3.keep (by omega) z (fun k a b => hG.block k (by omega) (by simp; omega)), h4.keep (by omega) z (fun k a b => hG.block k (by omega) (by simp; omega)), h5.keep (by omega) z (fun k a b => hG.block k (by omega) (by simp; omega)), hS, grownBy_trans h7 hG, h8, h9, k0, k1, k2, by omega, k4⟩
theorem Mine.set {α : Type} {z : Nat} {enc : α → List Value} (hz : ∀ a, (enc a).length = z) {b b' : Nat} {w : World} {g n c : Nat} {L : List α} (h : Mine z enc b b' w (.slice (some ⟨g, 0, none⟩) n c) L) {q d : Nat} {a a' : α} {v : Value} (hq : L[q]? = some a) (hd : d < z) (hv : (enc a')[d]? = some v) (hs : ∀ i, i ≠ d → (enc a')[i]? = (enc a)[i]?) :
    Mine z enc b b' (w.setCell ⟨g, q * z + d, none⟩ v) (.slice (some ⟨g, 0, none⟩) n c) (L.set q a') := by
  refine ⟨h.1.setElem hz hq hd hv hs, ?_⟩
  rcases h.2 with h2 | ⟨g', c', h3, h4, h5⟩
  · subst h2; simp at hq
  · cases h3
    exact .inr ⟨g, c, by rw [List.length_set], h4, fun o => by simpa using h5 o⟩
theorem set_other (W : World) (g o : Nat) (v : Value) {k : Nat} (h : k ≠ g) : (W.setCell ⟨g, o, none⟩ v).heap[k]? = W.heap[k]? := Below.heap_setCell _ _ _ _ (by simp only; omega)
theorem set_size (W : World) (p : Addr) (v : Value) : (W.setCell p v).heap.size = W.heap.size := by simp [World.setCell]
theorem grown_set {g o : Nat} {v : Value} {r : Option Nat} (hg : w.grownBy wx r) (h : w.heap.size ≤ g) : w.grownBy (wx.setCell ⟨g, o, none⟩ v) r :=
  ⟨hg.os, hg.tape, hg.output, by rw [set_size]; exact hg.size, fun k hk hr => (set_other _ _ _ _ (by omega)).trans (hg.block k hk hr)⟩
theorem At4.setS {g n c : Nat} (h : At4 A sb b0 b1 b2 b3 b4 b5 w wx (.slice (some ⟨g, 0, none⟩) n c) uh um S H M) (hgg : b0 ≤ g ∧ g < b1) {q d : Nat} {a a' : Sec} {v : Value} (hq : S[q]? = some a) (hd : d < 7) (hv : (encSec a')[d]? = some v) (hs : ∀ i, i ≠ d → (encSec a')[i]? = (encSec a)[i]?) :
    At4 A sb b0 b1 b2 b3 b4 b5 w (wx.setCell ⟨g, q * 7 + d, none⟩ v) (.slice (some ⟨g, 0, none⟩) n c) uh um (S.set q a') H M := by
  obtain ⟨h1, h2, h3, h4, h5, h6, h7, h8, h9, k0, k1, k2, k3, k4⟩ := h
  have z := set_size wx ⟨g, q * 7 + d, none⟩ v
  exact ⟨(set_other _ _ _ _ (by omega)).trans h1, (set_other _ _ _ _ (by omega)).trans h2, h3.set encSec_len hq hd hv hs, h4.keep (by omega) (by omega) (fun k _ _ => set_other _ _ _ _ (by omega)), h5.keep (by omega) (by omega) (fun k _ _ => set_other _ _ _ _ (by omega)), srcOk_below h6 ((Below.refl A wx).setCell (p := ⟨g, q * 7 + d, none⟩) (by simp only; omega) v) h9, grown_set h7 (by omega), h8, h9, k0, k1, k2, by omega, k4⟩
theorem At4.setH {g n c : Nat} (h : At4 A sb b0 b1 b2 b3 b4 b5 w wx us (.slice (some ⟨g, 0, none⟩) n c) um S H M) (hgg : b2 ≤ g ∧ g < b3) {q d : Nat} {a a' : Hold} {v : Value} (hq : H[q]? = some a) (hd : d < 3) (hv : (encHold a')[d]? = some v) (hs : ∀ i, i ≠ d → (encHold a')[i]? = (encHold a)[i]?) :
    At4 A sb b0 b1 b2 b3 b4 b5 w (wx.setCell ⟨g, q * 3 + d, none⟩ v) us (.slice (some ⟨g, 0, none⟩) n c) um S (H.set q a') M := by
  obtain ⟨h1, h2, h3, h4, h5, h6, h7, h8, h9, k0, k1, k2, k3, k4⟩ := h
  have z := set_size wx ⟨g, q * 3 + d, none⟩ v
  exact ⟨(set_other _ _ _ _ (by omega)).trans h1, (set_other _ _ _ _ (by omega)).trans h2, h3.keep (by omega) (by omega) (fun k _ _ => set_other _ _ _ _ (by omega)), h4.set encHold_len hq hd hv hs, h5.keep (by omega) (by omega) (fun k _ _ => set_other _ _ _ _ (by omega)), srcOk_below h6 ((Below.refl A wx).setCell (p := ⟨g, q * 3 + d, none⟩) (by simp only; omega) v) h9, grown_set h7 (by omega), h8, h9, k0, k1, k2, by omega, k4⟩
theorem At4.setM {g n c : Nat} (h : At4 A sb b0 b1 b2 b3 b4 b5 w wx us uh (.slice (some ⟨g, 0, none⟩) n c) S H M) (hgg : b4 ≤ g ∧ g < b5) {q d : Nat} {a a' : Mv} {v : Value} (hq : M[q]? = some a) (hd : d < 7) (hv : (encMv a')[d]? = some v) (hs : ∀ i, i ≠ d → (encMv a')[i]? = (encMv a)[i]?) :
    At4 A sb b0 b1 b2 b3 b4 b5 w (wx.setCell ⟨g, q * 7 + d, none⟩ v) us uh (.slice (some ⟨g, 0, none⟩) n c) S H (M.set q a') := by
  obtain ⟨h1, h2, h3, h4, h5, h6, h7, h8, h9, k0, k1, k2, k3, k4⟩ := h
  have z := set_size wx ⟨g, q * 7 + d, none⟩ v
  exact ⟨(set_other _ _ _ _ (by omega)).trans h1, (set_other _ _ _ _ (by omega)).trans h2, h3.keep (by omega) (by omega) (fun k _ _ => set_other _ _ _ _ (by omega)), h4.keep (by omega) (by omega) (fun k _ _ => set_other _ _ _ _ (by omega)), h5.set encMv_len hq hd hv hs, srcOk_below h6 ((Below.refl A wx).setCell (p := ⟨g, q * 7 + d, none⟩) (by simp only; omega) v) h9, grown_set h7 (by omega), h8, h9, k0, k1, k2, by omega, k4⟩
end
theorem Mine.fro {α : Type} {z : Nat} {enc : α → List Value} {b b' : Nat} {w : World} {g n c : Nat} {L : List α} (h : Mine z enc b b' w (.slice (some ⟨g, 0, none⟩) n c) L) (hL : L ≠ []) : ∀ o, w.frozen? ⟨g, o, none⟩ = false := by
  rcases h.2 with h2 | ⟨g', c', h3, h4, h5⟩
  · exact absurd h2 hL
  · cases h3; exact h5
/-- ahead of the return -/
def EndB (sb : Nat) (R : Reg) (w wx : World) : Prop :=
  ∃ (s0 h0 m0 : Option Addr) (ns cs nh ch nm cm : Nat) (R' : Reg), (R'.secs.length = R.secs.length ∧ R'.hs.length ≤ R.hs.length + 1 ∧ R'.ms.length = R.ms.length) ∧ wx.heap[w.heap.size]? = some (.cells #[.slice s0 ns cs, .slice h0 nh ch, .slice m0 nm cm] 27 (0, 0)) ∧ wx.heap[w.heap.size + 1]? = some (.cells #[.slice none 0 0, .slice none 0 0, .slice none 0 0] 27 (0, 0)) ∧ RgIn (fun b => w.heap.size + 2 ≤ b) wx (.slice s0 ns cs) (.slice h0 nh ch) (.slice m0 nm cm) R' ∧ SrcOk wx sb ∧ w.grownBy wx (some sb)
theorem At4.fin {A sb b0 b1 b2 b3 b4 b5 : Nat} {w wx : World} {s0 h0 m0 : Option Addr} {ns cs nh ch nm cm : Nat} {S : List Sec} {H : List Hold} {M : List Mv} {R : Reg} (h : At4 A sb b0 b1 b2 b3 b4 b5 w wx (.slice s0 ns cs) (.slice h0 nh ch) (.slice m0 nm cm) S H M) (hS : S.length = R.secs.length) (hH : H.length ≤ R.hs.length + 1) (hM : M.length = R.ms.length) : EndB sb R w wx := by
  obtain ⟨h1, h2, h3, h4, h5, h6, h7, rfl, h9, k0, k1, k2, k3, k4⟩ := h
  exact ⟨s0, h0, m0, ns, cs, nh, ch, nm, cm, ⟨S, H, M⟩, ⟨hS, hH, hM⟩, h1, h2, ⟨h3.1.mono fun b hb _ => by omega, h4.1.mono fun b hb _ => by omega, h5.1.mono fun b hb _ => by omega⟩, h6, h7⟩
theorem keep_boxS {w w' : World} {b : Nat} {o : Obj} (hb : Below w.heap.size w w') (h : w.heap[b]? = some o) : w'.heap[b]? = some o := (hb.block b (Array.getElem?_eq_some_iff.1 h).1).trans h
set_option maxHeartbeats 4000000 in
set_option maxRecDepth 100000 in
theorem bent_any (P : Nat → Prop) (sb : Nat) (vs vh vm : Value) (R : Reg) (w : World) (hs : SrcOk w sb) (hr : RgIn P w vs vh vm R) (hPs : ∀ b, P b → b ≠ sb) (hS : 1 ≤ R.secs.length ∧ R.secs.length ≤ 1000) (hH : R.hs.length ≤ 1000) (hM : R.ms.length ≤ 1000) :
    Calls Try.prog 16 #[.pointer (some ⟨sb, 0, none⟩), .agg #[vs, vh, vm]] w (BentW R sb w) := by
  obtain ⟨a0, n0, c0, rfl, -, -, -⟩ := hr.S.shape
  obtain ⟨a1, n1, c1, rfl, -, -, -⟩ := hr.H.shape
  obtain ⟨a2, n2, c2, rfl, -, -, -⟩ := hr.M.shape
  have hlt := srcOk_lt hs
  have hzz : ∀ (U : World) (o : Obj), (U.alloc o).heap.size = U.heap.size + 1 := fun U o => by simp
  obtain ⟨i1, hi, hz0, hz1, hz2⟩ := info_parts infoSec
  obtain ⟨j1, ji, jz0, jz1, jz2⟩ := info_parts infoHold
  obtain ⟨k1, ki, kz0, kz1, kz2⟩ := info_parts infoMv
  have HR := Lib.hid (hr.mono (Q := fun b => b < w.heap.size) fun b _ hl => hl)
  have HS := Lib.hid hs
  clear hr hs
  go_enter Try.func16, Try.ntmps16
  go_upto_region 1 with fail
  obtain ⟨W0, hW0⟩ : ∃ X, (w.alloc (.cells #[.slice a0 n0 c0, .slice a1 n1 c1, .slice a2 n2 c2] 27)).alloc (.cells #[.slice none 0 0, .slice none 0 0, .slice none 0 0] 27) = X := ⟨_, rfl⟩
  have hb0 : Below w.heap.size w W0 := by rw [← hW0]; exact bal (bal brefl _) _
  have z0 : W0.heap.size = w.heap.size + 2 := by rw [← hW0]; simp
  have hx0 : W0.heap[w.heap.size]? = some (.cells #[.slice a0 n0 c0, .slice a1 n1 c1, .slice a2 n2 c2] 27 (0, 0)) := by rw [← hW0]; exact (heap_alloc_old _ _ (by simp)).trans (heap_alloc_new w _)
  have hy0 : W0.heap[w.heap.size + 1]? = some (.cells #[.slice none 0 0, .slice none 0 0, .slice none 0 0] 27 (0, 0)) := by rw [← hW0]; have := heap_alloc_new (w.alloc (.cells #[.slice a0 n0 c0, .slice a1 n1 c1, .slice a2 n2 c2] 27)) (.cells #[.slice none 0 0, .slice none 0 0, .slice none 0 0] 27); rw [hzz] at this; exact this
  rw [hW0]
  have HR0 := Lib.hid (HR.out.below hb0)
  have HB0 := Lib.hid hb0
  have HX0 := Lib.hid hx0
  have HY0 := Lib.hid hy0
  have HZ0 := Lib.hid z0
  clear hW0 hb0
  have b0 := cell_heap (i := 0) hx0 rfl
  have f0 := frozen_of_row W0 _ 0 _ _ hx0
  clear hx0 hy0
  go_upto_region 2 with (at_builtin; go_must (refine wpList_copy_row encSec_len oneSec rfl _ 23 rfl 29 i1 (.agg #[.int .i64 0, .int .i64 0, .int .i64 0, .int .i64 0, .int .i64 0, .int .i64 0, .bool false]) 56 Try.underlying23 hi hz0 hz1 hz2 rfl (by decide) (by decide) _ rfl HR0.out.S (by omega) ?_); intro us w1 ho1 hb1; obtain ⟨s0, sc, rfl⟩ := own_slice0 ho1; have hx1 := keep_boxS hb1 HX0.out; have q1 := cell_heap (i := 0) hx1 rfl; have qf1 := frozen_of_row w1 _ 0 _ _ hx1; have HO1 := Lib.hid ho1; have HW1 := Lib.hid hb1; have HX1' := Lib.hid hx1; have z1' := hb1.size; clear ho1 hb1 hx1)
  have hx1 := heap_setCell_same w1 _ 0 _ _ (.slice s0 R.secs.length sc) HX1'.out
  have hz1 : (w1.setCell ⟨w.heap.size, 0, none⟩ (.slice s0 R.secs.length sc)).heap.size = w1.heap.size := by simp [World.setCell]
  have hk1 : ∀ k, k ≠ w.heap.size → (w1.setCell ⟨w.heap.size, 0, none⟩ (.slice s0 R.secs.length sc)).heap[k]? = w1.heap[k]? := fun k hk => Below.heap_setCell _ _ _ _ (by simp only; omega)
  have hbw1 : Below w.heap.size w (w1.setCell ⟨w.heap.size, 0, none⟩ (.slice s0 R.secs.length sc)) := ((HB0.out.trans (HW1.out.mono HB0.out.size))).setCell (p := ⟨w.heap.size, 0, none⟩) (Nat.le_refl _) _
  generalize w1.setCell ⟨w.heap.size, 0, none⟩ (.slice s0 R.secs.length sc) = W1 at hx1 hz1 hk1 hbw1 ⊢
  have HX1 := Lib.hid hx1
  have HB1 := Lib.hid hbw1
  have HR1 := Lib.hid (HR.out.below hbw1)
  have HY1 := Lib.hid ((hk1 _ (by omega)).trans (keep_boxS HW1.out HY0.out))
  have HM1 := Lib.hid (((Mine.own encSec_len HO1.out).keep (w' := W1) (Nat.le_refl _) (by omega) (fun k h1 h2 => hk1 k (by omega))))
  clear b0 f0 q1 qf1 hx1
  have b1 := cell_heap (i := 1) HX1.out rfl
  have f1 := frozen_of_row W1 _ 1 _ _ HX1.out
  go_upto_region 3 with (at_builtin; go_must (refine wpList_copy_row encHold_len oneHold rfl _ 24 rfl 98 j1 (.agg #[.int .i64 0, .int .i64 0, .int .i64 0]) 24 Try.underlying24 ji jz0 jz1 jz2 rfl (by decide) (by decide) _ rfl HR1.out.H (by omega) ?_); intro uh w2 ho2 hb2; obtain ⟨h0, hc, rfl⟩ := own_slice0 ho2; have hx2 := keep_boxS hb2 HX1.out; have q2 := cell_heap (i := 1) hx2 rfl; have qf2 := frozen_of_row w2 _ 1 _ _ hx2; have HO2 := Lib.hid ho2; have HW2 := Lib.hid hb2; have HX2' := Lib.hid hx2; have z2' := hb2.size; clear ho2 hb2 hx2)
  have hx2 := heap_setCell_same w2 _ 1 _ _ (.slice h0 R.hs.length hc) HX2'.out
  have hz2 : (w2.setCell ⟨w.heap.size, 1, none⟩ (.slice h0 R.hs.length hc)).heap.size = w2.heap.size := by simp [World.setCell]
  have hk2 : ∀ k, k ≠ w.heap.size → (w2.setCell ⟨w.heap.size, 1, none⟩ (.slice h0 R.hs.length hc)).heap[k]? = w2.heap[k]? := fun k hk => Below.heap_setCell _ _ _ _ (by simp only; omega)
  have hbw2 : Below w.heap.size w (w2.setCell ⟨w.heap.size, 1, none⟩ (.slice h0 R.hs.length hc)) := ((HB1.out.trans (HW2.out.mono HB1.out.size))).setCell (p := ⟨w.heap.size, 1, none⟩) (Nat.le_refl _) _
  generalize w2.setCell ⟨w.heap.size, 1, none⟩ (.slice h0 R.hs.length hc) = W2 at hx2 hz2 hk2 hbw2 ⊢
  have HX2 := Lib.hid hx2
  have HB2 := Lib.hid hbw2
  have HR2 := Lib.hid (HR.out.below hbw2)
  have HY2 := Lib.hid ((hk2 _ (by omega)).trans (keep_boxS HW2.out HY1.out))
  have HM2 := Lib.hid (((Mine.own encHold_len HO2.out).keep (w' := W2) (Nat.le_refl _) (by omega) (fun k h1 h2 => hk2 k (by omega))))
  have HM1' := Lib.hid (HM1.out.keep (w' := W2) (by omega) (by omega) (fun k h1 h2 => (hk2 k (by omega)).trans (HW2.out.block k (by omega))))
  clear b1 f1 q2 qf2 hx2
  have b2 := cell_heap (i := 2) HX2.out rfl
  have f2 := frozen_of_row W2 _ 2 _ _ HX2.out
  go_upto_region 4 with (at_builtin; go_must (refine wpList_copy_row encMv_len oneMv rfl _ 25 rfl 110 k1 (.agg #[.int .i64 0, .int .i64 0, .int .i64 0, .int .i64 0, .int .i64 0, .int .i64 0, .int .i64 0]) 56 Try.underlying25 ki kz0 kz1 kz2 rfl (by decide) (by decide) _ rfl HR2.out.M (by omega) ?_); intro um w3 ho3 hb3; obtain ⟨m0, mc, rfl⟩ := own_slice0 ho3; have hx3 := keep_boxS hb3 HX2.out; have q3 := cell_heap (i := 2) hx3 rfl; have qf3 := frozen_of_row w3 _ 2 _ _ hx3; have HO3 := Lib.hid ho3; have HW3 := Lib.hid hb3; have HX3' := Lib.hid hx3; have z3' := hb3.size; clear ho3 hb3 hx3)
  have hx3 := heap_setCell_same w3 _ 2 _ _ (.slice m0 R.ms.length mc) HX3'.out
  have hz3 : (w3.setCell ⟨w.heap.size, 2, none⟩ (.slice m0 R.ms.length mc)).heap.size = w3.heap.size := by simp [World.setCell]
  have hk3 : ∀ k, k ≠ w.heap.size → (w3.setCell ⟨w.heap.size, 2, none⟩ (.slice m0 R.ms.length mc)).heap[k]? = w3.heap[k]? := fun k hk => Below.heap_setCell _ _ _ _ (by simp only; omega)
  have hbw3 : Below w.heap.size w (w3.setCell ⟨w.heap.size, 2, none⟩ (.slice m0 R.ms.length mc)) := ((HB2.out.trans (HW3.out.mono HB2.out.size))).setCell (p := ⟨w.heap.size, 2, none⟩) (Nat.le_refl _) _
  generalize w3.setCell ⟨w.heap.size, 2, none⟩ (.slice m0 R.ms.length mc) = W3 at hx3 hz3 hk3 hbw3 ⊢
  have HX3 := Lib.hid hx3
  have HB3 := Lib.hid hbw3
  have HR3 := Lib.hid (HR.out.below hbw3)
  have HY3 := Lib.hid ((hk3 _ (by omega)).trans (keep_boxS HW3.out HY2.out))
  have HM3 := Lib.hid (((Mine.own encMv_len HO3.out).keep (w' := W3) (Nat.le_refl _) (by omega) (fun k h1 h2 => hk3 k (by omega))))
  have HM1'' := Lib.hid (HM1'.out.keep (w' := W3) (by omega) (by omega) (fun k h1 h2 => (hk3 k (by omega)).trans (HW3.out.block k (by omega))))
  have HM2' := Lib.hid (HM2.out.keep (w' := W3) (by omega) (by omega) (fun k h1 h2 => (hk3 k (by omega)).trans (HW3.out.block k (by omega))))
  clear b2 f2 q3 qf3 hx3
  have HS3 := Lib.hid (srcOk_below HS.out HB3.out hlt)
  have HRR := Lib.hid (And.intro HM1''.out (And.intro HM2'.out HM3.out))
  clear HM1 HM1' HM1'' HM2 HM2' HM3 HR0 HR1 HR2 HR3 HX0 HX1 HX2 HX1' HX2' HX3' HO1 HO2 HO3 HW1 HW2 HW3 HY0 HY1 HY2 HB0 HB1 HB2 HS
  go_wp2_with fail
  refine (n_any sb 5 W3 HS3.out (by decide)).mono ?_
  rintro e w4 ⟨q, hq, rfl, hS4, hG4⟩
  have z4 := hG4.size
  have hx4 := (hG4.block _ (by omega) (by simp; omega)).trans HX3.out
  have hy4 := (hG4.block _ (by omega) (by simp; omega)).trans HY3.out
  have hsz3 : w3.heap.size ≤ W3.heap.size := by omega
  have hM1 := HRR.out.1.keep (w' := w4) (by omega) z4 (fun k h1 h2 => hG4.block k (by omega) (by simp; omega))
  have hM2 := HRR.out.2.1.keep (w' := w4) (by omega) z4 (fun k h1 h2 => hG4.block k (by omega) (by simp; omega))
  have hM3 := HRR.out.2.2.keep (w' := w4) (by omega) z4 (fun k h1 h2 => hG4.block k (by omega) (by simp; omega))
  have hg4 : w.grownBy w4 (some sb) := grownBy_trans ⟨HB3.out.os, HB3.out.tape, HB3.out.output, HB3.out.size, fun k hk _ => HB3.out.block k hk⟩ hG4
  have HX4 := Lib.hid hx4
  have HY4 := Lib.hid hy4
  have HM1 := Lib.hid hM1
  have HM2 := Lib.hid hM2
  have HM3 := Lib.hid hM3
  have HG4 := Lib.hid hg4
  have HS4 := Lib.hid hS4
  have hA : w.heap.size + 2 ≤ W0.heap.size := by omega
  clear hx4 hy4 hM1 hM2 hM3 hg4 hS4 hG4 HRR HX3 HY3 HB3 HS3
  have b0 := cell_heap (i := 0) HX4.out rfl
  have b1 := cell_heap (i := 1) HX4.out rfl
  have b2 := cell_heap (i := 2) HX4.out rfl
  go_upto_block 0 with fail
  have HAT := Lib.hid (show At4 w.heap.size sb W0.heap.size w1.heap.size W1.heap.size w2.heap.size W2.heap.size w3.heap.size w w4 (.slice s0 R.secs.length sc) (.slice h0 R.hs.length hc) (.slice m0 R.ms.length mc) R.secs R.hs R.ms from ⟨HX4.out, HY4.out, HM1.out, HM2.out, HM3.out, HS4.out, HG4.out, rfl, hlt, hA, by omega, by omega, by omega, by omega⟩)
  clear HX4 HY4 HM1 HM2 HM3 HS4 HG4
  have zA4 : w.heap.size < w4.heap.size := (Array.getElem?_eq_some_iff.1 HAT.out.box).1
  go_cut [] (fun wx => EndB sb R w wx)
  case first =>
    rcases (show q = 0 ∨ q = 1 ∨ q = 2 ∨ 3 ≤ q by omega) with rfl | rfl | rfl | h3
    · have hne : R.secs ≠ [] := by intro h; rw [h] at hS; simp at hS
      obtain ⟨g, gc, he, hgg, hfr⟩ := HAT.out.s.2.resolve_left hne
      cases he
      go_upto_region 17 with fail
      go_cut [5] (fun s5 wx => ∃ qn : Nat, qn < R.secs.length ∧ s5 = .pointer (some ⟨g, qn * 7, none⟩) ∧ At4 w.heap.size sb W0.heap.size w1.heap.size W1.heap.size w2.heap.size W2.heap.size w3.heap.size w wx (.slice (some ⟨g, 0, none⟩) R.secs.length sc) (.slice h0 R.hs.length hc) (.slice m0 R.ms.length mc) R.secs R.hs R.ms)
      case first =>
        go_region_with (go_at_call 13; refine (n_any sb (R.secs.length : Int) _ (srcOk_drewN HAT.out.so 1) (by omega)).mono ?_; rintro e w5 ⟨v, hv, rfl, hS5, hG5⟩; obtain ⟨qn, rfl⟩ : ∃ k : Nat, v = k := ⟨v.toNat, by omega⟩; have hqn : qn < R.secs.length := (by omega); have hat := HAT.out.grown (grownBy_undrew hG5) hS5; have bb0 := cell_heap (i := 0) hat.box rfl; have bb1 := cell_heap (i := 1) hat.box rfl; have bb2 := cell_heap (i := 2) hat.box rfl; have HAT5 := Lib.hid hat; clear hat hS5 hG5 hv)
        all_goals (go_wp2_with fail; go_meet)
        all_goals exact ⟨qn, hqn, rfl, HAT5.out⟩
      case rest =>
        obtain ⟨qn, hqn, rfl, hatc⟩ := hcut
        have HATC := Lib.hid hatc
        clear hatc HAT b0 b1 b2
        obtain ⟨g0', o0', id, un, is, ma, ra, ev, ix, he0, -, -, hq0, -, -, -, -, -, -, -⟩ := HATC.out.s.1.sec hqn
        cases he0
        have HQ0 := Lib.hid hq0
        clear hq0
        go_upto_region 18 with fail
        -- FLOW0
        refine wp_region_any (by kernel_rfl) ?_
        change wpAny _ _ _ _ _ _ _ (World.drew _)
        have HATD := Lib.hid (HATC.out.grown (grownBy_drewN wc 1 _) (srcOk_drewN HATC.out.so 1))
        have hE : World.drewN wc 1 = wc.drew := rfl
        rw [hE] at HATD
        refine anyP_inv (J := fun listed a' w' => ∃ t76 t77 t78 t79 t80 t81 t82 t83 t84 t85 t86 t87 t88 t89 t90 t91 t92 t93 t94 t95 t96 t97 t98 t99 t100 : Value, a' = { tmps := #[Value.pointer (some ⟨sb, 0, none⟩), Value.agg #[Value.slice a0 n0 c0, Value.slice a1 n1 c1, Value.slice a2 n2 c2], undef, Value.pointer (some ⟨w.heap.size, 0, none⟩), Value.pointer (some ⟨w.heap.size + 1, 0, none⟩), Value.pointer (some ⟨g, qn * 7, none⟩), undef, u7, u8, u9, u10, u11, u12, u13, u14, u15, u16, u17, u18, u19, Value.int IntKind.i64 0, u21, u22, u23, u24, u25, u26, u27, u28, u29, u30, u31, u32, u33, u34, u35, u36, u37, undef, u39, u40, u41, u42, u43, u44, undef, u46, u47, u48, u49, u50, u51, undef, u53, u54, u55, u56, u57, u58, undef, u60, u61, u62, u63, u64, u65, Value.bool true, u67, u68, u69, u70, u71, u72, u73, u74, u75, t76, t77, t78, t79, t80, t81, t82, t83, t84, t85, t86, t87, t88, t89, t90, t91, t92, t93, t94, t95, t96, t97, t98, t99, t100, undef, u102, u103, u104, u105, u106, u107, u108, u109, u110, u111, u112, u113, u114, u115, u116, u117, u118, u119, u120, u121, u122, undef, u124, u125, u126, u127, u128, u129, u130, u131, u132], defers := [] } ∧ listed.size = 27 ∧ (listed.getD 0 false = true → t76 = .pointer (some ⟨g, qn * 7, none⟩)) ∧ (listed.getD 1 false = true → t77 = .pointer (some ⟨g, qn * 7, none⟩)) ∧ (listed.getD 2 false = true → t78 = .pointer (some ⟨sb, 0, none⟩)) ∧ (listed.getD 3 false = true → t79 = .pointer (some ⟨g, qn * 7, none⟩)) ∧ (listed.getD 4 false = true → t80 = .pointer (some ⟨g, qn * 7, none⟩)) ∧ (listed.getD 5 false = true → t81 = .pointer (some ⟨g, qn * 7 + 3, none⟩)) ∧ (listed.getD 6 false = true → t82 = .int .i64 ma) ∧ (listed.getD 7 false = true → t83 = .pointer (some ⟨g, qn * 7, none⟩)) ∧ (listed.getD 8 false = true → t84 = .pointer (some ⟨g, qn * 7, none⟩)) ∧ (listed.getD 9 false = true → t85 = .pointer (some ⟨g, qn * 7 + 3, none⟩)) ∧ (listed.getD 10 false = true → t86 = .int .i64 ma) ∧ (listed.getD 14 false = true → t90 = .pointer (some ⟨sb, 0, none⟩)) ∧ (listed.getD 15 false = true → t91 = .pointer (some ⟨g, qn * 7, none⟩)) ∧ (listed.getD 16 false = true → t92 = .pointer (some ⟨g, qn * 7, none⟩)) ∧ (listed.getD 17 false = true → t93 = .pointer (some ⟨g, qn * 7 + 5, none⟩)) ∧ (listed.getD 18 false = true → t94 = .int .i64 ev) ∧ (listed.getD 21 false = true → t97 = .pointer (some ⟨g, qn * 7, none⟩)) ∧ (listed.getD 22 false = true → t98 = .pointer (some ⟨g, qn * 7 + 3, none⟩)) ∧ (listed.getD 24 false = true → t99 = .pointer (some ⟨g, qn * 7, none⟩)) ∧ (listed.getD 25 false = true → t100 = .pointer (some ⟨g, qn * 7 + 5, none⟩)) ∧ (listed.getD 11 false = true → ∃ z : Int, t87 = .int .i64 z) ∧ (listed.getD 12 false = true → ∃ (g1 : Nat) (z : Int), t88 = .slice (some ⟨g1, 0, none⟩) 3 3 ∧ (listed.getD 13 false = false → (w3.heap.size ≤ g1 ∧ w'.cell? ⟨g1, 0, none⟩ = some (.int .i64 0) ∧ w'.cell? ⟨g1, 1, none⟩ = some (.int .i64 ma) ∧ w'.cell? ⟨g1, 2, none⟩ = some (.int .i64 z)))) ∧ (listed.getD 13 false = true → ∃ z : Int, t89 = .int .i64 z) ∧ (listed.getD 19 false = true → ∃ g2 : Nat, t95 = .slice (some ⟨g2, 0, none⟩) 3 3 ∧ (listed.getD 20 false = false → (w3.heap.size ≤ g2 ∧ w'.cell? ⟨g2, 0, none⟩ = some (.int .i64 0) ∧ w'.cell? ⟨g2, 1, none⟩ = some (.int .i64 2) ∧ w'.cell? ⟨g2, 2, none⟩ = some (.int .i64 ev)))) ∧ (listed.getD 20 false = true → ∃ z : Int, t96 = .int .i64 z) ∧ (listed.getD 20 false = true → listed.getD 13 false = true ∧ listed.getD 19 false = true) ∧ (listed.getD 23 false = true → listed.getD 2 false = true ∧ listed.getD 3 false = true ∧ listed.getD 4 false = true ∧ listed.getD 5 false = true ∧ listed.getD 6 false = true ∧ listed.getD 7 false = true ∧ listed.getD 8 false = true ∧ listed.getD 9 false = true ∧ listed.getD 10 false = true ∧ listed.getD 11 false = true ∧ listed.getD 12 false = true ∧ listed.getD 13 false = true ∧ listed.getD 18 false = true ∧ listed.getD 20 false = true ∧ listed.getD 0 false = true) ∧ (listed.getD 26 false = true → listed.getD 23 false = true ∧ listed.getD 1 false = true) ∧ (listed.getD 23 false = false → At4 w.heap.size sb W0.heap.size w1.heap.size W1.heap.size w2.heap.size W2.heap.size w3.heap.size w w' (.slice (some ⟨g, 0, none⟩) R.secs.length sc) (.slice h0 R.hs.length hc) (.slice m0 R.ms.length mc) R.secs R.hs R.ms) ∧ (listed.getD 23 false = true → listed.getD 26 false = false → ∃ S', S'.length = R.secs.length ∧ At4 w.heap.size sb W0.heap.size w1.heap.size W1.heap.size w2.heap.size W2.heap.size w3.heap.size w w' (.slice (some ⟨g, 0, none⟩) R.secs.length sc) (.slice h0 R.hs.length hc) (.slice m0 R.ms.length mc) S' R.hs R.ms) ∧ (listed.getD 26 false = true → ∃ S', S'.length = R.secs.length ∧ At4 w.heap.size sb W0.heap.size w1.heap.size W1.heap.size w2.heap.size W2.heap.size w3.heap.size w w' (.slice (some ⟨g, 0, none⟩) R.secs.length sc) (.slice h0 R.hs.length hc) (.slice m0 R.ms.length mc) S' R.hs R.ms)) ?step ?fin _ _ _ _ ⟨u76, u77, u78, u79, u80, u81, u82, u83, u84, u85, u86, u87, u88, u89, u90, u91, u92, u93, u94, u95, u96, u97, u98, u99, u100, rfl, rfl, fun h => by simp at h, fun h => by simp at h, fun h => by simp at h, fun h => by simp at h, fun h => by simp at h, fun h => by simp at h, fun h => by simp at h, fun h => by simp at h, fun h => by simp at h, fun h => by simp at h, fun h => by simp at h, fun h => by simp at h, fun h => by simp at h, fun h => by simp at h, fun h => by simp at h, fun h => by simp at h, fun h => by simp at h, fun h => by simp at h, fun h => by simp at h, fun h => by simp at h, fun h => by simp at h, fun h => by simp at h, fun h => by simp at h, fun h => by simp at h, fun h => by simp at h, fun h => by simp at h, fun h => by simp at h, fun h => by simp at h, fun _ => HATD.out, fun h => by simp at h, fun h => by simp at h⟩ (by decide)
        case step =>
          rintro listed a' w' ⟨t76, t77, t78, t79, t80, t81, t82, t83, t84, t85, t86, t87, t88, t89, t90, t91, t92, t93, t94, t95, t96, t97, t98, t99, t100, rfl, hsz, f0, f1, f2, f3, f4, f5, f6, f7, f8, f9, f10, f14, f15, f16, f17, f18, f21, f22, f24, f25, f11, f12, f13, f19, f20, o20, o23, o26, wA, wB, wC⟩ i hi K hK
          obtain ⟨hni, o, ho, hdep⟩ := mem_ready.1 hi
          have hi27 : i < 27 := (Array.getElem?_eq_some_iff.1 ho).1
          have hself := listed_self hni
          have hno := listed_no hni
          rcases (show i = 0 ∨ i = 1 ∨ i = 2 ∨ i = 3 ∨ i = 4 ∨ i = 5 ∨ i = 6 ∨ i = 7 ∨ i = 8 ∨ i = 9 ∨ i = 10 ∨ i = 11 ∨ i = 12 ∨ i = 13 ∨ i = 14 ∨ i = 15 ∨ i = 16 ∨ i = 17 ∨ i = 18 ∨ i = 19 ∨ i = 20 ∨ i = 21 ∨ i = 22 ∨ i = 23 ∨ i = 24 ∨ i = 25 ∨ i = 26 by omega) with rfl | rfl | rfl | rfl | rfl | rfl | rfl | rfl | rfl | rfl | rfl | rfl | rfl | rfl | rfl | rfl | rfl | rfl | rfl | rfl | rfl | rfl | rfl | rfl | rfl | rfl | rfl
          · injection ho with ho
            subst ho
            clear hi hdep
            refine wpOpP_of rfl rfl ?_
            go_simp
            exact hK _ _ ⟨(.pointer (some ⟨g, qn * 7, none⟩)), t77, t78, t79, t80, t81, t82, t83, t84, t85, t86, t87, t88, t89, t90, t91, t92, t93, t94, t95, t96, t97, t98, t99, t100, rfl, by simpa using hsz, fun _ => rfl, fun h => f1 (listed_ne (by decide) h), fun h => f2 (listed_ne (by decide) h), fun h => f3 (listed_ne (by decide) h), fun h => f4 (listed_ne (by decide) h), fun h => f5 (listed_ne (by decide) h), fun h => f6 (listed_ne (by decide) h), fun h => f7 (listed_ne (by decide) h), fun h => f8 (listed_ne (by decide) h), fun h => f9 (listed_ne (by decide) h), fun h => f10 (listed_ne (by decide) h), fun h => f14 (listed_ne (by decide) h), fun h => f15 (listed_ne (by decide) h), fun h => f16 (listed_ne (by decide) h), fun h => f17 (listed_ne (by decide) h), fun h => f18 (listed_ne (by decide) h), fun h => f21 (listed_ne (by decide) h), fun h => f22 (listed_ne (by decide) h), fun h => f24 (listed_ne (by decide) h), fun h => f25 (listed_ne (by decide) h), fun h => f11 (listed_ne (by decide) h), fun h => by obtain ⟨g1, z, e1, e2⟩ := f12 (listed_ne (by decide) h); exact ⟨g1, z, e1, fun h' => e2 (by rw [getD_set_ne _ (by decide)] at h'; exact h')⟩, fun h => f13 (listed_ne (by decide) h), fun h => by obtain ⟨g2, e1, e2⟩ := f19 (listed_ne (by decide) h); exact ⟨g2, e1, fun h' => e2 (by rw [getD_set_ne _ (by decide)] at h'; exact h')⟩, fun h => f20 (listed_ne (by decide) h), fun h => by have := o20 (listed_ne (by decide) h); exact ⟨listed_keep this.1, listed_keep this.2⟩, fun h => by have := o23 (listed_ne (by decide) h); obtain ⟨y0, y1, y2, y3, y4, y5, y6, y7, y8, y9, y10, y11, y12, y13, y14⟩ := this; exact ⟨listed_keep y0, listed_keep y1, listed_keep y2, listed_keep y3, listed_keep y4, listed_keep y5, listed_keep y6, listed_keep y7, listed_keep y8, listed_keep y9, listed_keep y10, listed_keep y11, listed_keep y12, listed_keep y13, listed_keep y14⟩, fun h => by have := o26 (listed_ne (by decide) h); exact ⟨listed_keep this.1, listed_keep this.2⟩, fun h => wA (by rw [getD_set_ne _ (by decide)] at h; exact h), fun h h' => wB (listed_ne (by decide) h) (by rw [getD_set_ne _ (by decide)] at h'; exact h'), fun h => wC (listed_ne (by decide) h)⟩
          · injection ho with ho
            subst ho
            clear hi hdep
            refine wpOpP_of rfl rfl ?_
            go_simp
            exact hK _ _ ⟨t76, (.pointer (some ⟨g, qn * 7, none⟩)), t78, t79, t80, t81, t82, t83, t84, t85, t86, t87, t88, t89, t90, t91, t92, t93, t94, t95, t96, t97, t98, t99, t100, rfl, by simpa using hsz, fun h => f0 (listed_ne (by decide) h), fun _ => rfl, fun h => f2 (listed_ne (by decide) h), fun h => f3 (listed_ne (by decide) h), fun h => f4 (listed_ne (by decide) h), fun h => f5 (listed_ne (by decide) h), fun h => f6 (listed_ne (by decide) h), fun h => f7 (listed_ne (by decide) h), fun h => f8 (listed_ne (by decide) h), fun h => f9 (listed_ne (by decide) h), fun h => f10 (listed_ne (by decide) h), fun h => f14 (listed_ne (by decide) h), fun h => f15 (listed_ne (by decide) h), fun h => f16 (listed_ne (by decide) h), fun h => f17 (listed_ne (by decide) h), fun h => f18 (listed_ne (by decide) h), fun h => f21 (listed_ne (by decide) h), fun h => f22 (listed_ne (by decide) h), fun h => f24 (listed_ne (by decide) h), fun h => f25 (listed_ne (by decide) h), fun h => f11 (listed_ne (by decide) h), fun h => by obtain ⟨g1, z, e1, e2⟩ := f12 (listed_ne (by decide) h); exact ⟨g1, z, e1, fun h' => e2 (by rw [getD_set_ne _ (by decide)] at h'; exact h')⟩, fun h => f13 (listed_ne (by decide) h), fun h => by obtain ⟨g2, e1, e2⟩ := f19 (listed_ne (by decide) h); exact ⟨g2, e1, fun h' => e2 (by rw [getD_set_ne _ (by decide)] at h'; exact h')⟩, fun h => f20 (listed_ne (by decide) h), fun h => by have := o20 (listed_ne (by decide) h); exact ⟨listed_keep this.1, listed_keep this.2⟩, fun h => by have := o23 (listed_ne (by decide) h); obtain ⟨y0, y1, y2, y3, y4, y5, y6, y7, y8, y9, y10, y11, y12, y13, y14⟩ := this; exact ⟨listed_keep y0, listed_keep y1, listed_keep y2, listed_keep y3, listed_keep y4, listed_keep y5, listed_keep y6, listed_keep y7, listed_keep y8, listed_keep y9, listed_keep y10, listed_keep y11, listed_keep y12, listed_keep y13, listed_keep y14⟩, fun h => by have := o26 (listed_ne (by decide) h); exact ⟨listed_keep this.1, listed_keep this.2⟩, fun h => wA (by rw [getD_set_ne _ (by decide)] at h; exact h), fun h h' => wB (listed_ne (by decide) h) (by rw [getD_set_ne _ (by decide)] at h'; exact h'), fun h => wC (listed_ne (by decide) h)⟩
          · injection ho with ho
            subst ho
            clear hi hdep
            refine wpOpP_of rfl rfl ?_
            go_simp
            exact hK _ _ ⟨t76, t77, (.pointer (some ⟨sb, 0, none⟩)), t79, t80, t81, t82, t83, t84, t85, t86, t87, t88, t89, t90, t91, t92, t93, t94, t95, t96, t97, t98, t99, t100, rfl, by simpa using hsz, fun h => f0 (listed_ne (by decide) h), fun h => f1 (listed_ne (by decide) h), fun _ => rfl, fun h => f3 (listed_ne (by decide) h), fun h => f4 (listed_ne (by decide) h), fun h => f5 (listed_ne (by decide) h), fun h => f6 (listed_ne (by decide) h), fun h => f7 (listed_ne (by decide) h), fun h => f8 (listed_ne (by decide) h), fun h => f9 (listed_ne (by decide) h), fun h => f10 (listed_ne (by decide) h), fun h => f14 (listed_ne (by decide) h), fun h => f15 (listed_ne (by decide) h), fun h => f16 (listed_ne (by decide) h), fun h => f17 (listed_ne (by decide) h), fun h => f18 (listed_ne (by decide) h), fun h => f21 (listed_ne (by decide) h), fun h => f22 (listed_ne (by decide) h), fun h => f24 (listed_ne (by decide) h), fun h => f25 (listed_ne (by decide) h), fun h => f11 (listed_ne (by decide) h), fun h => by obtain ⟨g1, z, e1, e2⟩ := f12 (listed_ne (by decide) h); exact ⟨g1, z, e1, fun h' => e2 (by rw [getD_set_ne _ (by decide)] at h'; exact h')⟩, fun h => f13 (listed_ne (by decide) h), fun h => by obtain ⟨g2, e1, e2⟩ := f19 (listed_ne (by decide) h); exact ⟨g2, e1, fun h' => e2 (by rw [getD_set_ne _ (by decide)] at h'; exact h')⟩, fun h => f20 (listed_ne (by decide) h), fun h => by have := o20 (listed_ne (by decide) h); exact ⟨listed_keep this.1, listed_keep this.2⟩, fun h => by have := o23 (listed_ne (by decide) h); obtain ⟨y0, y1, y2, y3, y4, y5, y6, y7, y8, y9, y10, y11, y12, y13, y14⟩ := this; exact ⟨listed_keep y0, listed_keep y1, listed_keep y2, listed_keep y3, listed_keep y4, listed_keep y5, listed_keep y6, listed_keep y7, listed_keep y8, listed_keep y9, listed_keep y10, listed_keep y11, listed_keep y12, listed_keep y13, listed_keep y14⟩, fun h => by have := o26 (listed_ne (by decide) h); exact ⟨listed_keep this.1, listed_keep this.2⟩, fun h => wA (by rw [getD_set_ne _ (by decide)] at h; exact h), fun h h' => wB (listed_ne (by decide) h) (by rw [getD_set_ne _ (by decide)] at h'; exact h'), fun h => wC (listed_ne (by decide) h)⟩
          · injection ho with ho
            subst ho
            clear hi hdep
            refine wpOpP_of rfl rfl ?_
            go_simp
            exact hK _ _ ⟨t76, t77, t78, (.pointer (some ⟨g, qn * 7, none⟩)), t80, t81, t82, t83, t84, t85, t86, t87, t88, t89, t90, t91, t92, t93, t94, t95, t96, t97, t98, t99, t100, rfl, by simpa using hsz, fun h => f0 (listed_ne (by decide) h), fun h => f1 (listed_ne (by decide) h), fun h => f2 (listed_ne (by decide) h), fun _ => rfl, fun h => f4 (listed_ne (by decide) h), fun h => f5 (listed_ne (by decide) h), fun h => f6 (listed_ne (by decide) h), fun h => f7 (listed_ne (by decide) h), fun h => f8 (listed_ne (by decide) h), fun h => f9 (listed_ne (by decide) h), fun h => f10 (listed_ne (by decide) h), fun h => f14 (listed_ne (by decide) h), fun h => f15 (listed_ne (by decide) h), fun h => f16 (listed_ne (by decide) h), fun h => f17 (listed_ne (by decide) h), fun h => f18 (listed_ne (by decide) h), fun h => f21 (listed_ne (by decide) h), fun h => f22 (listed_ne (by decide) h), fun h => f24 (listed_ne (by decide) h), fun h => f25 (listed_ne (by decide) h), fun h => f11 (listed_ne (by decide) h), fun h => by obtain ⟨g1, z, e1, e2⟩ := f12 (listed_ne (by decide) h); exact ⟨g1, z, e1, fun h' => e2 (by rw [getD_set_ne _ (by decide)] at h'; exact h')⟩, fun h => f13 (listed_ne (by decide) h), fun h => by obtain ⟨g2, e1, e2⟩ := f19 (listed_ne (by decide) h); exact ⟨g2, e1, fun h' => e2 (by rw [getD_set_ne _ (by decide)] at h'; exact h')⟩, fun h => f20 (listed_ne (by decide) h), fun h => by have := o20 (listed_ne (by decide) h); exact ⟨listed_keep this.1, listed_keep this.2⟩, fun h => by have := o23 (listed_ne (by decide) h); obtain ⟨y0, y1, y2, y3, y4, y5, y6, y7, y8, y9, y10, y11, y12, y13, y14⟩ := this; exact ⟨listed_keep y0, listed_keep y1, listed_keep y2, listed_keep y3, listed_keep y4, listed_keep y5, listed_keep y6, listed_keep y7, listed_keep y8, listed_keep y9, listed_keep y10, listed_keep y11, listed_keep y12, listed_keep y13, listed_keep y14⟩, fun h => by have := o26 (listed_ne (by decide) h); exact ⟨listed_keep this.1, listed_keep this.2⟩, fun h => wA (by rw [getD_set_ne _ (by decide)] at h; exact h), fun h h' => wB (listed_ne (by decide) h) (by rw [getD_set_ne _ (by decide)] at h'; exact h'), fun h => wC (listed_ne (by decide) h)⟩
          · injection ho with ho
            subst ho
            have d3 := hdep ⟨3, .data⟩ (by simp) rfl
            obtain rfl := f3 d3
            clear hi hdep
            refine wpOpP_of rfl rfl ?_
            go_simp
            exact hK _ _ ⟨t76, t77, t78, _, (.pointer (some ⟨g, qn * 7, none⟩)), t81, t82, t83, t84, t85, t86, t87, t88, t89, t90, t91, t92, t93, t94, t95, t96, t97, t98, t99, t100, rfl, by simpa using hsz, fun h => f0 (listed_ne (by decide) h), fun h => f1 (listed_ne (by decide) h), fun h => f2 (listed_ne (by decide) h), fun h => f3 (listed_ne (by decide) h), fun _ => rfl, fun h => f5 (listed_ne (by decide) h), fun h => f6 (listed_ne (by decide) h), fun h => f7 (listed_ne (by decide) h), fun h => f8 (listed_ne (by decide) h), fun h => f9 (listed_ne (by decide) h), fun h => f10 (listed_ne (by decide) h), fun h => f14 (listed_ne (by decide) h), fun h => f15 (listed_ne (by decide) h), fun h => f16 (listed_ne (by decide) h), fun h => f17 (listed_ne (by decide) h), fun h => f18 (listed_ne (by decide) h), fun h => f21 (listed_ne (by decide) h), fun h => f22 (listed_ne (by decide) h), fun h => f24 (listed_ne (by decide) h), fun h => f25 (listed_ne (by decide) h), fun h => f11 (listed_ne (by decide) h), fun h => by obtain ⟨g1, z, e1, e2⟩ := f12 (listed_ne (by decide) h); exact ⟨g1, z, e1, fun h' => e2 (by rw [getD_set_ne _ (by decide)] at h'; exact h')⟩, fun h => f13 (listed_ne (by decide) h), fun h => by obtain ⟨g2, e1, e2⟩ := f19 (listed_ne (by decide) h); exact ⟨g2, e1, fun h' => e2 (by rw [getD_set_ne _ (by decide)] at h'; exact h')⟩, fun h => f20 (listed_ne (by decide) h), fun h => by have := o20 (listed_ne (by decide) h); exact ⟨listed_keep this.1, listed_keep this.2⟩, fun h => by have := o23 (listed_ne (by decide) h); obtain ⟨y0, y1, y2, y3, y4, y5, y6, y7, y8, y9, y10, y11, y12, y13, y14⟩ := this; exact ⟨listed_keep y0, listed_keep y1, listed_keep y2, listed_keep y3, listed_keep y4, listed_keep y5, listed_keep y6, listed_keep y7, listed_keep y8, listed_keep y9, listed_keep y10, listed_keep y11, listed_keep y12, listed_keep y13, listed_keep y14⟩, fun h => by have := o26 (listed_ne (by decide) h); exact ⟨listed_keep this.1, listed_keep this.2⟩, fun h => wA (by rw [getD_set_ne _ (by decide)] at h; exact h), fun h h' => wB (listed_ne (by decide) h) (by rw [getD_set_ne _ (by decide)] at h'; exact h'), fun h => wC (listed_ne (by decide) h)⟩
          · injection ho with ho
            subst ho
            have d4 := hdep ⟨4, .data⟩ (by simp) rfl
            obtain rfl := f4 d4
            clear hi hdep
            refine wpOpP_of rfl rfl ?_
            go_simp
            exact hK _ _ ⟨t76, t77, t78, t79, _, (.pointer (some ⟨g, qn * 7 + 3, none⟩)), t82, t83, t84, t85, t86, t87, t88, t89, t90, t91, t92, t93, t94, t95, t96, t97, t98, t99, t100, rfl, by simpa using hsz, fun h => f0 (listed_ne (by decide) h), fun h => f1 (listed_ne (by decide) h), fun h => f2 (listed_ne (by decide) h), fun h => f3 (listed_ne (by decide) h), fun h => f4 (listed_ne (by decide) h), fun _ => rfl, fun h => f6 (listed_ne (by decide) h), fun h => f7 (listed_ne (by decide) h), fun h => f8 (listed_ne (by decide) h), fun h => f9 (listed_ne (by decide) h), fun h => f10 (listed_ne (by decide) h), fun h => f14 (listed_ne (by decide) h), fun h => f15 (listed_ne (by decide) h), fun h => f16 (listed_ne (by decide) h), fun h => f17 (listed_ne (by decide) h), fun h => f18 (listed_ne (by decide) h), fun h => f21 (listed_ne (by decide) h), fun h => f22 (listed_ne (by decide) h), fun h => f24 (listed_ne (by decide) h), fun h => f25 (listed_ne (by decide) h), fun h => f11 (listed_ne (by decide) h), fun h => by obtain ⟨g1, z, e1, e2⟩ := f12 (listed_ne (by decide) h); exact ⟨g1, z, e1, fun h' => e2 (by rw [getD_set_ne _ (by decide)] at h'; exact h')⟩, fun h => f13 (listed_ne (by decide) h), fun h => by obtain ⟨g2, e1, e2⟩ := f19 (listed_ne (by decide) h); exact ⟨g2, e1, fun h' => e2 (by rw [getD_set_ne _ (by decide)] at h'; exact h')⟩, fun h => f20 (listed_ne (by decide) h), fun h => by have := o20 (listed_ne (by decide) h); exact ⟨listed_keep this.1, listed_keep this.2⟩, fun h => by have := o23 (listed_ne (by decide) h); obtain ⟨y0, y1, y2, y3, y4, y5, y6, y7, y8, y9, y10, y11, y12, y13, y14⟩ := this; exact ⟨listed_keep y0, listed_keep y1, listed_keep y2, listed_keep y3, listed_keep y4, listed_keep y5, listed_keep y6, listed_keep y7, listed_keep y8, listed_keep y9, listed_keep y10, listed_keep y11, listed_keep y12, listed_keep y13, listed_keep y14⟩, fun h => by have := o26 (listed_ne (by decide) h); exact ⟨listed_keep this.1, listed_keep this.2⟩, fun h => wA (by rw [getD_set_ne _ (by decide)] at h; exact h), fun h h' => wB (listed_ne (by decide) h) (by rw [getD_set_ne _ (by decide)] at h'; exact h'), fun h => wC (listed_ne (by decide) h)⟩
          · injection ho with ho
            subst ho
            have d5 := hdep ⟨5, .data⟩ (by simp) rfl
            obtain rfl := f5 d5
            have h23 : listed.getD 23 false = false := by
              cases h : listed.getD 23 false with
              | false => rfl
              | true => obtain ⟨y0, y1, y2, y3, y4, y5, y6, y7, y8, y9, y10, y11, y12, y13, y14⟩ := o23 h; rw [hno] at y4; cases y4
            have HAW := Lib.hid (wA h23)
            obtain ⟨g', o', id', un', is', ma', ra', ev', ix', he', -, -, hq', e0, e1, e2, e3, e4, e5, e6⟩ := HAW.out.s.1.sec hqn
            cases he'
            rw [HQ0.out] at hq'
            cases hq'
            simp only [Nat.zero_add] at e3 e5
            clear hi hdep
            refine wpOpP_of rfl rfl ?_
            go_simp
            exact hK _ _ ⟨t76, t77, t78, t79, t80, _, (.int .i64 ma), t83, t84, t85, t86, t87, t88, t89, t90, t91, t92, t93, t94, t95, t96, t97, t98, t99, t100, rfl, by simpa using hsz, fun h => f0 (listed_ne (by decide) h), fun h => f1 (listed_ne (by decide) h), fun h => f2 (listed_ne (by decide) h), fun h => f3 (listed_ne (by decide) h), fun h => f4 (listed_ne (by decide) h), fun h => f5 (listed_ne (by decide) h), fun _ => rfl, fun h => f7 (listed_ne (by decide) h), fun h => f8 (listed_ne (by decide) h), fun h => f9 (listed_ne (by decide) h), fun h => f10 (listed_ne (by decide) h), fun h => f14 (listed_ne (by decide) h), fun h => f15 (listed_ne (by decide) h), fun h => f16 (listed_ne (by decide) h), fun h => f17 (listed_ne (by decide) h), fun h => f18 (listed_ne (by decide) h), fun h => f21 (listed_ne (by decide) h), fun h => f22 (listed_ne (by decide) h), fun h => f24 (listed_ne (by decide) h), fun h => f25 (listed_ne (by decide) h), fun h => f11 (listed_ne (by decide) h), fun h => by obtain ⟨g1, z, e1, e2⟩ := f12 (listed_ne (by decide) h); exact ⟨g1, z, e1, fun h' => e2 (by rw [getD_set_ne _ (by decide)] at h'; exact h')⟩, fun h => f13 (listed_ne (by decide) h), fun h => by obtain ⟨g2, e1, e2⟩ := f19 (listed_ne (by decide) h); exact ⟨g2, e1, fun h' => e2 (by rw [getD_set_ne _ (by decide)] at h'; exact h')⟩, fun h => f20 (listed_ne (by decide) h), fun h => by have := o20 (listed_ne (by decide) h); exact ⟨listed_keep this.1, listed_keep this.2⟩, fun h => by have := o23 (listed_ne (by decide) h); obtain ⟨y0, y1, y2, y3, y4, y5, y6, y7, y8, y9, y10, y11, y12, y13, y14⟩ := this; exact ⟨listed_keep y0, listed_keep y1, listed_keep y2, listed_keep y3, listed_keep y4, listed_keep y5, listed_keep y6, listed_keep y7, listed_keep y8, listed_keep y9, listed_keep y10, listed_keep y11, listed_keep y12, listed_keep y13, listed_keep y14⟩, fun h => by have := o26 (listed_ne (by decide) h); exact ⟨listed_keep this.1, listed_keep this.2⟩, fun h => wA (by rw [getD_set_ne _ (by decide)] at h; exact h), fun h h' => wB (listed_ne (by decide) h) (by rw [getD_set_ne _ (by decide)] at h'; exact h'), fun h => wC (listed_ne (by decide) h)⟩
          · injection ho with ho
            subst ho
            clear hi hdep
            refine wpOpP_of rfl rfl ?_
            go_simp
            exact hK _ _ ⟨t76, t77, t78, t79, t80, t81, t82, (.pointer (some ⟨g, qn * 7, none⟩)), t84, t85, t86, t87, t88, t89, t90, t91, t92, t93, t94, t95, t96, t97, t98, t99, t100, rfl, by simpa using hsz, fun h => f0 (listed_ne (by decide) h), fun h => f1 (listed_ne (by decide) h), fun h => f2 (listed_ne (by decide) h), fun h => f3 (listed_ne (by decide) h), fun h => f4 (listed_ne (by decide) h), fun h => f5 (listed_ne (by decide) h), fun h => f6 (listed_ne (by decide) h), fun _ => rfl, fun h => f8 (listed_ne (by decide) h), fun h => f9 (listed_ne (by decide) h), fun h => f10 (listed_ne (by decide) h), fun h => f14 (listed_ne (by decide) h), fun h => f15 (listed_ne (by decide) h), fun h => f16 (listed_ne (by decide) h), fun h => f17 (listed_ne (by decide) h), fun h => f18 (listed_ne (by decide) h), fun h => f21 (listed_ne (by decide) h), fun h => f22 (listed_ne (by decide) h), fun h => f24 (listed_ne (by decide) h), fun h => f25 (listed_ne (by decide) h), fun h => f11 (listed_ne (by decide) h), fun h => by obtain ⟨g1, z, e1, e2⟩ := f12 (listed_ne (by decide) h); exact ⟨g1, z, e1, fun h' => e2 (by rw [getD_set_ne _ (by decide)] at h'; exact h')⟩, fun h => f13 (listed_ne (by decide) h), fun h => by obtain ⟨g2, e1, e2⟩ := f19 (listed_ne (by decide) h); exact ⟨g2, e1, fun h' => e2 (by rw [getD_set_ne _ (by decide)] at h'; exact h')⟩, fun h => f20 (listed_ne (by decide) h), fun h => by have := o20 (listed_ne (by decide) h); exact ⟨listed_keep this.1, listed_keep this.2⟩, fun h => by have := o23 (listed_ne (by decide) h); obtain ⟨y0, y1, y2, y3, y4, y5, y6, y7, y8, y9, y10, y11, y12, y13, y14⟩ := this; exact ⟨listed_keep y0, listed_keep y1, listed_keep y2, listed_keep y3, listed_keep y4, listed_keep y5, listed_keep y6, listed_keep y7, listed_keep y8, listed_keep y9, listed_keep y10, listed_keep y11, listed_keep y12, listed_keep y13, listed_keep y14⟩, fun h => by have := o26 (listed_ne (by decide) h); exact ⟨listed_keep this.1, listed_keep this.2⟩, fun h => wA (by rw [getD_set_ne _ (by decide)] at h; exact h), fun h h' => wB (listed_ne (by decide) h) (by rw [getD_set_ne _ (by decide)] at h'; exact h'), fun h => wC (listed_ne (by decide) h)⟩
          · injection ho with ho
            subst ho
            have d7 := hdep ⟨7, .data⟩ (by simp) rfl
            obtain rfl := f7 d7
            clear hi hdep
            refine wpOpP_of rfl rfl ?_
            go_simp
            exact hK _ _ ⟨t76, t77, t78, t79, t80, t81, t82, _, (.pointer (some ⟨g, qn * 7, none⟩)), t85, t86, t87, t88, t89, t90, t91, t92, t93, t94, t95, t96, t97, t98, t99, t100, rfl, by simpa using hsz, fun h => f0 (listed_ne (by decide) h), fun h => f1 (listed_ne (by decide) h), fun h => f2 (listed_ne (by decide) h), fun h => f3 (listed_ne (by decide) h), fun h => f4 (listed_ne (by decide) h), fun h => f5 (listed_ne (by decide) h), fun h => f6 (listed_ne (by decide) h), fun h => f7 (listed_ne (by decide) h), fun _ => rfl, fun h => f9 (listed_ne (by decide) h), fun h => f10 (listed_ne (by decide) h), fun h => f14 (listed_ne (by decide) h), fun h => f15 (listed_ne (by decide) h), fun h => f16 (listed_ne (by decide) h), fun h => f17 (listed_ne (by decide) h), fun h => f18 (listed_ne (by decide) h), fun h => f21 (listed_ne (by decide) h), fun h => f22 (listed_ne (by decide) h), fun h => f24 (listed_ne (by decide) h), fun h => f25 (listed_ne (by decide) h), fun h => f11 (listed_ne (by decide) h), fun h => by obtain ⟨g1, z, e1, e2⟩ := f12 (listed_ne (by decide) h); exact ⟨g1, z, e1, fun h' => e2 (by rw [getD_set_ne _ (by decide)] at h'; exact h')⟩, fun h => f13 (listed_ne (by decide) h), fun h => by obtain ⟨g2, e1, e2⟩ := f19 (listed_ne (by decide) h); exact ⟨g2, e1, fun h' => e2 (by rw [getD_set_ne _ (by decide)] at h'; exact h')⟩, fun h => f20 (listed_ne (by decide) h), fun h => by have := o20 (listed_ne (by decide) h); exact ⟨listed_keep this.1, listed_keep this.2⟩, fun h => by have := o23 (listed_ne (by decide) h); obtain ⟨y0, y1, y2, y3, y4, y5, y6, y7, y8, y9, y10, y11, y12, y13, y14⟩ := this; exact ⟨listed_keep y0, listed_keep y1, listed_keep y2, listed_keep y3, listed_keep y4, listed_keep y5, listed_keep y6, listed_keep y7, listed_keep y8, listed_keep y9, listed_keep y10, listed_keep y11, listed_keep y12, listed_keep y13, listed_keep y14⟩, fun h => by have := o26 (listed_ne (by decide) h); exact ⟨listed_keep this.1, listed_keep this.2⟩, fun h => wA (by rw [getD_set_ne _ (by decide)] at h; exact h), fun h h' => wB (listed_ne (by decide) h) (by rw [getD_set_ne _ (by decide)] at h'; exact h'), fun h => wC (listed_ne (by decide) h)⟩
          · injection ho with ho
            subst ho
            have d8 := hdep ⟨8, .data⟩ (by simp) rfl
            obtain rfl := f8 d8
            clear hi hdep
            refine wpOpP_of rfl rfl ?_
            go_simp
            exact hK _ _ ⟨t76, t77, t78, t79, t80, t81, t82, t83, _, (.pointer (some ⟨g, qn * 7 + 3, none⟩)), t86, t87, t88, t89, t90, t91, t92, t93, t94, t95, t96, t97, t98, t99, t100, rfl, by simpa using hsz, fun h => f0 (listed_ne (by decide) h), fun h => f1 (listed_ne (by decide) h), fun h => f2 (listed_ne (by decide) h), fun h => f3 (listed_ne (by decide) h), fun h => f4 (listed_ne (by decide) h), fun h => f5 (listed_ne (by decide) h), fun h => f6 (listed_ne (by decide) h), fun h => f7 (listed_ne (by decide) h), fun h => f8 (listed_ne (by decide) h), fun _ => rfl, fun h => f10 (listed_ne (by decide) h), fun h => f14 (listed_ne (by decide) h), fun h => f15 (listed_ne (by decide) h), fun h => f16 (listed_ne (by decide) h), fun h => f17 (listed_ne (by decide) h), fun h => f18 (listed_ne (by decide) h), fun h => f21 (listed_ne (by decide) h), fun h => f22 (listed_ne (by decide) h), fun h => f24 (listed_ne (by decide) h), fun h => f25 (listed_ne (by decide) h), fun h => f11 (listed_ne (by decide) h), fun h => by obtain ⟨g1, z, e1, e2⟩ := f12 (listed_ne (by decide) h); exact ⟨g1, z, e1, fun h' => e2 (by rw [getD_set_ne _ (by decide)] at h'; exact h')⟩, fun h => f13 (listed_ne (by decide) h), fun h => by obtain ⟨g2, e1, e2⟩ := f19 (listed_ne (by decide) h); exact ⟨g2, e1, fun h' => e2 (by rw [getD_set_ne _ (by decide)] at h'; exact h')⟩, fun h => f20 (listed_ne (by decide) h), fun h => by have := o20 (listed_ne (by decide) h); exact ⟨listed_keep this.1, listed_keep this.2⟩, fun h => by have := o23 (listed_ne (by decide) h); obtain ⟨y0, y1, y2, y3, y4, y5, y6, y7, y8, y9, y10, y11, y12, y13, y14⟩ := this; exact ⟨listed_keep y0, listed_keep y1, listed_keep y2, listed_keep y3, listed_keep y4, listed_keep y5, listed_keep y6, listed_keep y7, listed_keep y8, listed_keep y9, listed_keep y10, listed_keep y11, listed_keep y12, listed_keep y13, listed_keep y14⟩, fun h => by have := o26 (listed_ne (by decide) h); exact ⟨listed_keep this.1, listed_keep this.2⟩, fun h => wA (by rw [getD_set_ne _ (by decide)] at h; exact h), fun h h' => wB (listed_ne (by decide) h) (by rw [getD_set_ne _ (by decide)] at h'; exact h'), fun h => wC (listed_ne (by decide) h)⟩
          · injection ho with ho
            subst ho
            have d9 := hdep ⟨9, .data⟩ (by simp) rfl
            obtain rfl := f9 d9
            have h23 : listed.getD 23 false = false := by
              cases h : listed.getD 23 false with
              | false => rfl
              | true => obtain ⟨y0, y1, y2, y3, y4, y5, y6, y7, y8, y9, y10, y11, y12, y13, y14⟩ := o23 h; rw [hno] at y8; cases y8
            have HAW := Lib.hid (wA h23)
            obtain ⟨g', o', id', un', is', ma', ra', ev', ix', he', -, -, hq', e0, e1, e2, e3, e4, e5, e6⟩ := HAW.out.s.1.sec hqn
            cases he'
            rw [HQ0.out] at hq'
            cases hq'
            simp only [Nat.zero_add] at e3 e5
            clear hi hdep
            refine wpOpP_of rfl rfl ?_
            go_simp
            exact hK _ _ ⟨t76, t77, t78, t79, t80, t81, t82, t83, t84, _, (.int .i64 ma), t87, t88, t89, t90, t91, t92, t93, t94, t95, t96, t97, t98, t99, t100, rfl, by simpa using hsz, fun h => f0 (listed_ne (by decide) h), fun h => f1 (listed_ne (by decide) h), fun h => f2 (listed_ne (by decide) h), fun h => f3 (listed_ne (by decide) h), fun h => f4 (listed_ne (by decide) h), fun h => f5 (listed_ne (by decide) h), fun h => f6 (listed_ne (by decide) h), fun h => f7 (listed_ne (by decide) h), fun h => f8 (listed_ne (by decide) h), fun h => f9 (listed_ne (by decide) h), fun _ => rfl, fun h => f14 (listed_ne (by decide) h), fun h => f15 (listed_ne (by decide) h), fun h => f16 (listed_ne (by decide) h), fun h => f17 (listed_ne (by decide) h), fun h => f18 (listed_ne (by decide) h), fun h => f21 (listed_ne (by decide) h), fun h => f22 (listed_ne (by decide) h), fun h => f24 (listed_ne (by decide) h), fun h => f25 (listed_ne (by decide) h), fun h => f11 (listed_ne (by decide) h), fun h => by obtain ⟨g1, z, e1, e2⟩ := f12 (listed_ne (by decide) h); exact ⟨g1, z, e1, fun h' => e2 (by rw [getD_set_ne _ (by decide)] at h'; exact h')⟩, fun h => f13 (listed_ne (by decide) h), fun h => by obtain ⟨g2, e1, e2⟩ := f19 (listed_ne (by decide) h); exact ⟨g2, e1, fun h' => e2 (by rw [getD_set_ne _ (by decide)] at h'; exact h')⟩, fun h => f20 (listed_ne (by decide) h), fun h => by have := o20 (listed_ne (by decide) h); exact ⟨listed_keep this.1, listed_keep this.2⟩, fun h => by have := o23 (listed_ne (by decide) h); obtain ⟨y0, y1, y2, y3, y4, y5, y6, y7, y8, y9, y10, y11, y12, y13, y14⟩ := this; exact ⟨listed_keep y0, listed_keep y1, listed_keep y2, listed_keep y3, listed_keep y4, listed_keep y5, listed_keep y6, listed_keep y7, listed_keep y8, listed_keep y9, listed_keep y10, listed_keep y11, listed_keep y12, listed_keep y13, listed_keep y14⟩, fun h => by have := o26 (listed_ne (by decide) h); exact ⟨listed_keep this.1, listed_keep this.2⟩, fun h => wA (by rw [getD_set_ne _ (by decide)] at h; exact h), fun h h' => wB (listed_ne (by decide) h) (by rw [getD_set_ne _ (by decide)] at h'; exact h'), fun h => wC (listed_ne (by decide) h)⟩
          · injection ho with ho
            subst ho
            have d10 := hdep ⟨10, .data⟩ (by simp) rfl
            obtain rfl := f10 d10
            clear hi hdep
            refine wpOpP_of rfl rfl ?_
            go_simp
            exact hK _ _ ⟨t76, t77, t78, t79, t80, t81, t82, t83, t84, t85, _, (_), t88, t89, t90, t91, t92, t93, t94, t95, t96, t97, t98, t99, t100, rfl, by simpa using hsz, fun h => f0 (listed_ne (by decide) h), fun h => f1 (listed_ne (by decide) h), fun h => f2 (listed_ne (by decide) h), fun h => f3 (listed_ne (by decide) h), fun h => f4 (listed_ne (by decide) h), fun h => f5 (listed_ne (by decide) h), fun h => f6 (listed_ne (by decide) h), fun h => f7 (listed_ne (by decide) h), fun h => f8 (listed_ne (by decide) h), fun h => f9 (listed_ne (by decide) h), fun h => f10 (listed_ne (by decide) h), fun h => f14 (listed_ne (by decide) h), fun h => f15 (listed_ne (by decide) h), fun h => f16 (listed_ne (by decide) h), fun h => f17 (listed_ne (by decide) h), fun h => f18 (listed_ne (by decide) h), fun h => f21 (listed_ne (by decide) h), fun h => f22 (listed_ne (by decide) h), fun h => f24 (listed_ne (by decide) h), fun h => f25 (listed_ne (by decide) h), fun _ => ⟨_, rfl⟩, fun h => by obtain ⟨g1, z, e1, e2⟩ := f12 (listed_ne (by decide) h); exact ⟨g1, z, e1, fun h' => e2 (by rw [getD_set_ne _ (by decide)] at h'; exact h')⟩, fun h => f13 (listed_ne (by decide) h), fun h => by obtain ⟨g2, e1, e2⟩ := f19 (listed_ne (by decide) h); exact ⟨g2, e1, fun h' => e2 (by rw [getD_set_ne _ (by decide)] at h'; exact h')⟩, fun h => f20 (listed_ne (by decide) h), fun h => by have := o20 (listed_ne (by decide) h); exact ⟨listed_keep this.1, listed_keep this.2⟩, fun h => by have := o23 (listed_ne (by decide) h); obtain ⟨y0, y1, y2, y3, y4, y5, y6, y7, y8, y9, y10, y11, y12, y13, y14⟩ := this; exact ⟨listed_keep y0, listed_keep y1, listed_keep y2, listed_keep y3, listed_keep y4, listed_keep y5, listed_keep y6, listed_keep y7, listed_keep y8, listed_keep y9, listed_keep y10, listed_keep y11, listed_keep y12, listed_keep y13, listed_keep y14⟩, fun h => by have := o26 (listed_ne (by decide) h); exact ⟨listed_keep this.1, listed_keep this.2⟩, fun h => wA (by rw [getD_set_ne _ (by decide)] at h; exact h), fun h h' => wB (listed_ne (by decide) h) (by rw [getD_set_ne _ (by decide)] at h'; exact h'), fun h => wC (listed_ne (by decide) h)⟩
          · injection ho with ho
            subst ho
            have d6 := hdep ⟨6, .data⟩ (by simp) rfl
            have d11 := hdep ⟨11, .data⟩ (by simp) rfl
            obtain rfl := f6 d6
            obtain ⟨z11, rfl⟩ := f11 d11
            have h23 : listed.getD 23 false = false := by
              cases h : listed.getD 23 false with
              | false => rfl
              | true => obtain ⟨y0, y1, y2, y3, y4, y5, y6, y7, y8, y9, y10, y11, y12, y13, y14⟩ := o23 h; rw [hno] at y10; cases y10
            have HAW := Lib.hid (wA h23)
            clear hi hdep
            refine wpOpP_of rfl rfl ?_
            go_simp
            exact hK _ _ ⟨t76, t77, t78, t79, t80, t81, _, t83, t84, t85, t86, _, (_), t89, t90, t91, t92, t93, t94, t95, t96, t97, t98, t99, t100, rfl, by simpa using hsz, fun h => f0 (listed_ne (by decide) h), fun h => f1 (listed_ne (by decide) h), fun h => f2 (listed_ne (by decide) h), fun h => f3 (listed_ne (by decide) h), fun h => f4 (listed_ne (by decide) h), fun h => f5 (listed_ne (by decide) h), fun h => f6 (listed_ne (by decide) h), fun h => f7 (listed_ne (by decide) h), fun h => f8 (listed_ne (by decide) h), fun h => f9 (listed_ne (by decide) h), fun h => f10 (listed_ne (by decide) h), fun h => f14 (listed_ne (by decide) h), fun h => f15 (listed_ne (by decide) h), fun h => f16 (listed_ne (by decide) h), fun h => f17 (listed_ne (by decide) h), fun h => f18 (listed_ne (by decide) h), fun h => f21 (listed_ne (by decide) h), fun h => f22 (listed_ne (by decide) h), fun h => f24 (listed_ne (by decide) h), fun h => f25 (listed_ne (by decide) h), fun h => f11 (listed_ne (by decide) h), fun _ => ⟨_, _, rfl, fun _ => ⟨HAW.out.l3, cell_heap (i := 0) (heap_alloc_new w' _) rfl, cell_heap (i := 1) (heap_alloc_new w' _) rfl, cell_heap (i := 2) (heap_alloc_new w' _) rfl⟩⟩, fun h => f13 (listed_ne (by decide) h), fun h => by obtain ⟨g2, e1, e2⟩ := f19 (listed_ne (by decide) h); exact ⟨g2, e1, fun h' => by have k := e2 (by rw [getD_set_ne _ (by decide)] at h'; exact h'); exact ⟨k.1, keepA k.2.1, keepA k.2.2.1, keepA k.2.2.2⟩⟩, fun h => f20 (listed_ne (by decide) h), fun h => by have := o20 (listed_ne (by decide) h); exact ⟨listed_keep this.1, listed_keep this.2⟩, fun h => by have := o23 (listed_ne (by decide) h); obtain ⟨y0, y1, y2, y3, y4, y5, y6, y7, y8, y9, y10, y11, y12, y13, y14⟩ := this; exact ⟨listed_keep y0, listed_keep y1, listed_keep y2, listed_keep y3, listed_keep y4, listed_keep y5, listed_keep y6, listed_keep y7, listed_keep y8, listed_keep y9, listed_keep y10, listed_keep y11, listed_keep y12, listed_keep y13, listed_keep y14⟩, fun h => by have := o26 (listed_ne (by decide) h); exact ⟨listed_keep this.1, listed_keep this.2⟩, fun _ => HAW.out.grown (World.grownBy_alloc w' _ _) (srcOk_alloc HAW.out.so _), fun h => absurd (listed_ne (by decide) h) (by rw [h23]; decide), fun h => absurd (o26 (listed_ne (by decide) h)).1 (by rw [h23]; decide)⟩
          · injection ho with ho
            subst ho
            have d2 := hdep ⟨2, .data⟩ (by simp) rfl
            have d12 := hdep ⟨12, .data⟩ (by simp) rfl
            obtain rfl := f2 d2
            have h23 : listed.getD 23 false = false := by
              cases h : listed.getD 23 false with
              | false => rfl
              | true => obtain ⟨y0, y1, y2, y3, y4, y5, y6, y7, y8, y9, y10, y11, y12, y13, y14⟩ := o23 h; rw [hno] at y11; cases y11
            have HAW := Lib.hid (wA h23)
            obtain ⟨g1, zc, rfl, hcc⟩ := f12 d12
            obtain ⟨hc0, hc1, hc2, hc3⟩ := hcc hno
            have hsg : w3.heap.size ≤ g1 := hc0
            clear hi hdep
            refine wpOpP_of rfl rfl ?_
            go_simp
            refine (pick_any sb g1 [0, ma, zc] 3 3 w' HAW.out.so (by omega) (by decide) (by decide) rfl (by intro i h; match i, h with | 0, _ => exact hc1 | 1, _ => exact hc2 | 2, _ => exact hc3)).mono ?_
            rintro e w9 ⟨u, hu, rfl, hS9, hG9⟩
            exact hK _ _ ⟨t76, t77, _, t79, t80, t81, t82, t83, t84, t85, t86, t87, _, (_), t90, t91, t92, t93, t94, t95, t96, t97, t98, t99, t100, rfl, by simpa using hsz, fun h => f0 (listed_ne (by decide) h), fun h => f1 (listed_ne (by decide) h), fun h => f2 (listed_ne (by decide) h), fun h => f3 (listed_ne (by decide) h), fun h => f4 (listed_ne (by decide) h), fun h => f5 (listed_ne (by decide) h), fun h => f6 (listed_ne (by decide) h), fun h => f7 (listed_ne (by decide) h), fun h => f8 (listed_ne (by decide) h), fun h => f9 (listed_ne (by decide) h), fun h => f10 (listed_ne (by decide) h), fun h => f14 (listed_ne (by decide) h), fun h => f15 (listed_ne (by decide) h), fun h => f16 (listed_ne (by decide) h), fun h => f17 (listed_ne (by decide) h), fun h => f18 (listed_ne (by decide) h), fun h => f21 (listed_ne (by decide) h), fun h => f22 (listed_ne (by decide) h), fun h => f24 (listed_ne (by decide) h), fun h => f25 (listed_ne (by decide) h), fun h => f11 (listed_ne (by decide) h), fun _ => ⟨g1, zc, rfl, fun h' => absurd hself (by rw [h']; decide)⟩, fun _ => ⟨_, rfl⟩, fun h => by obtain ⟨g2, e1, e2⟩ := f19 (listed_ne (by decide) h); exact ⟨g2, e1, fun h' => by have k := e2 (by rw [getD_set_ne _ (by decide)] at h'; exact h'); exact ⟨k.1, cell_gr hG9 (by omega) k.2.1, cell_gr hG9 (by omega) k.2.2.1, cell_gr hG9 (by omega) k.2.2.2⟩⟩, fun h => f20 (listed_ne (by decide) h), fun h => by have := o20 (listed_ne (by decide) h); exact ⟨listed_keep this.1, listed_keep this.2⟩, fun h => by have := o23 (listed_ne (by decide) h); obtain ⟨y0, y1, y2, y3, y4, y5, y6, y7, y8, y9, y10, y11, y12, y13, y14⟩ := this; exact ⟨listed_keep y0, listed_keep y1, listed_keep y2, listed_keep y3, listed_keep y4, listed_keep y5, listed_keep y6, listed_keep y7, listed_keep y8, listed_keep y9, listed_keep y10, listed_keep y11, listed_keep y12, listed_keep y13, listed_keep y14⟩, fun h => by have := o26 (listed_ne (by decide) h); exact ⟨listed_keep this.1, listed_keep this.2⟩, fun _ => HAW.out.grown hG9 hS9, fun h => absurd (listed_ne (by decide) h) (by rw [h23]; decide), fun h => absurd (o26 (listed_ne (by decide) h)).1 (by rw [h23]; decide)⟩
          · injection ho with ho
            subst ho
            clear hi hdep
            refine wpOpP_of rfl rfl ?_
            go_simp
            exact hK _ _ ⟨t76, t77, t78, t79, t80, t81, t82, t83, t84, t85, t86, t87, t88, t89, (.pointer (some ⟨sb, 0, none⟩)), t91, t92, t93, t94, t95, t96, t97, t98, t99, t100, rfl, by simpa using hsz, fun h => f0 (listed_ne (by decide) h), fun h => f1 (listed_ne (by decide) h), fun h => f2 (listed_ne (by decide) h), fun h => f3 (listed_ne (by decide) h), fun h => f4 (listed_ne (by decide) h), fun h => f5 (listed_ne (by decide) h), fun h => f6 (listed_ne (by decide) h), fun h => f7 (listed_ne (by decide) h), fun h => f8 (listed_ne (by decide) h), fun h => f9 (listed_ne (by decide) h), fun h => f10 (listed_ne (by decide) h), fun _ => rfl, fun h => f15 (listed_ne (by decide) h), fun h => f16 (listed_ne (by decide) h), fun h => f17 (listed_ne (by decide) h), fun h => f18 (listed_ne (by decide) h), fun h => f21 (listed_ne (by decide) h), fun h => f22 (listed_ne (by decide) h), fun h => f24 (listed_ne (by decide) h), fun h => f25 (listed_ne (by decide) h), fun h => f11 (listed_ne (by decide) h), fun h => by obtain ⟨g1, z, e1, e2⟩ := f12 (listed_ne (by decide) h); exact ⟨g1, z, e1, fun h' => e2 (by rw [getD_set_ne _ (by decide)] at h'; exact h')⟩, fun h => f13 (listed_ne (by decide) h), fun h => by obtain ⟨g2, e1, e2⟩ := f19 (listed_ne (by decide) h); exact ⟨g2, e1, fun h' => e2 (by rw [getD_set_ne _ (by decide)] at h'; exact h')⟩, fun h => f20 (listed_ne (by decide) h), fun h => by have := o20 (listed_ne (by decide) h); exact ⟨listed_keep this.1, listed_keep this.2⟩, fun h => by have := o23 (listed_ne (by decide) h); obtain ⟨y0, y1, y2, y3, y4, y5, y6, y7, y8, y9, y10, y11, y12, y13, y14⟩ := this; exact ⟨listed_keep y0, listed_keep y1, listed_keep y2, listed_keep y3, listed_keep y4, listed_keep y5, listed_keep y6, listed_keep y7, listed_keep y8, listed_keep y9, listed_keep y10, listed_keep y11, listed_keep y12, listed_keep y13, listed_keep y14⟩, fun h => by have := o26 (listed_ne (by decide) h); exact ⟨listed_keep this.1, listed_keep this.2⟩, fun h => wA (by rw [getD_set_ne _ (by decide)] at h; exact h), fun h h' => wB (listed_ne (by decide) h) (by rw [getD_set_ne _ (by decide)] at h'; exact h'), fun h => wC (listed_ne (by decide) h)⟩
          · injection ho with ho
            subst ho
            clear hi hdep
            refine wpOpP_of rfl rfl ?_
            go_simp
            exact hK _ _ ⟨t76, t77, t78, t79, t80, t81, t82, t83, t84, t85, t86, t87, t88, t89, t90, (.pointer (some ⟨g, qn * 7, none⟩)), t92, t93, t94, t95, t96, t97, t98, t99, t100, rfl, by simpa using hsz, fun h => f0 (listed_ne (by decide) h), fun h => f1 (listed_ne (by decide) h), fun h => f2 (listed_ne (by decide) h), fun h => f3 (listed_ne (by decide) h), fun h => f4 (listed_ne (by decide) h), fun h => f5 (listed_ne (by decide) h), fun h => f6 (listed_ne (by decide) h), fun h => f7 (listed_ne (by decide) h), fun h => f8 (listed_ne (by decide) h), fun h => f9 (listed_ne (by decide) h), fun h => f10 (listed_ne (by decide) h), fun h => f14 (listed_ne (by decide) h), fun _ => rfl, fun h => f16 (listed_ne (by decide) h), fun h => f17 (listed_ne (by decide) h), fun h => f18 (listed_ne (by decide) h), fun h => f21 (listed_ne (by decide) h), fun h => f22 (listed_ne (by decide) h), fun h => f24 (listed_ne (by decide) h), fun h => f25 (listed_ne (by decide) h), fun h => f11 (listed_ne (by decide) h), fun h => by obtain ⟨g1, z, e1, e2⟩ := f12 (listed_ne (by decide) h); exact ⟨g1, z, e1, fun h' => e2 (by rw [getD_set_ne _ (by decide)] at h'; exact h')⟩, fun h => f13 (listed_ne (by decide) h), fun h => by obtain ⟨g2, e1, e2⟩ := f19 (listed_ne (by decide) h); exact ⟨g2, e1, fun h' => e2 (by rw [getD_set_ne _ (by decide)] at h'; exact h')⟩, fun h => f20 (listed_ne (by decide) h), fun h => by have := o20 (listed_ne (by decide) h); exact ⟨listed_keep this.1, listed_keep this.2⟩, fun h => by have := o23 (listed_ne (by decide) h); obtain ⟨y0, y1, y2, y3, y4, y5, y6, y7, y8, y9, y10, y11, y12, y13, y14⟩ := this; exact ⟨listed_keep y0, listed_keep y1, listed_keep y2, listed_keep y3, listed_keep y4, listed_keep y5, listed_keep y6, listed_keep y7, listed_keep y8, listed_keep y9, listed_keep y10, listed_keep y11, listed_keep y12, listed_keep y13, listed_keep y14⟩, fun h => by have := o26 (listed_ne (by decide) h); exact ⟨listed_keep this.1, listed_keep this.2⟩, fun h => wA (by rw [getD_set_ne _ (by decide)] at h; exact h), fun h h' => wB (listed_ne (by decide) h) (by rw [getD_set_ne _ (by decide)] at h'; exact h'), fun h => wC (listed_ne (by decide) h)⟩
          · injection ho with ho
            subst ho
            have d15 := hdep ⟨15, .data⟩ (by simp) rfl
            obtain rfl := f15 d15
            clear hi hdep
            refine wpOpP_of rfl rfl ?_
            go_simp
            exact hK _ _ ⟨t76, t77, t78, t79, t80, t81, t82, t83, t84, t85, t86, t87, t88, t89, t90, _, (.pointer (some ⟨g, qn * 7, none⟩)), t93, t94, t95, t96, t97, t98, t99, t100, rfl, by simpa using hsz, fun h => f0 (listed_ne (by decide) h), fun h => f1 (listed_ne (by decide) h), fun h => f2 (listed_ne (by decide) h), fun h => f3 (listed_ne (by decide) h), fun h => f4 (listed_ne (by decide) h), fun h => f5 (listed_ne (by decide) h), fun h => f6 (listed_ne (by decide) h), fun h => f7 (listed_ne (by decide) h), fun h => f8 (listed_ne (by decide) h), fun h => f9 (listed_ne (by decide) h), fun h => f10 (listed_ne (by decide) h), fun h => f14 (listed_ne (by decide) h), fun h => f15 (listed_ne (by decide) h), fun _ => rfl, fun h => f17 (listed_ne (by decide) h), fun h => f18 (listed_ne (by decide) h), fun h => f21 (listed_ne (by decide) h), fun h => f22 (listed_ne (by decide) h), fun h => f24 (listed_ne (by decide) h), fun h => f25 (listed_ne (by decide) h), fun h => f11 (listed_ne (by decide) h), fun h => by obtain ⟨g1, z, e1, e2⟩ := f12 (listed_ne (by decide) h); exact ⟨g1, z, e1, fun h' => e2 (by rw [getD_set_ne _ (by decide)] at h'; exact h')⟩, fun h => f13 (listed_ne (by decide) h), fun h => by obtain ⟨g2, e1, e2⟩ := f19 (listed_ne (by decide) h); exact ⟨g2, e1, fun h' => e2 (by rw [getD_set_ne _ (by decide)] at h'; exact h')⟩, fun h => f20 (listed_ne (by decide) h), fun h => by have := o20 (listed_ne (by decide) h); exact ⟨listed_keep this.1, listed_keep this.2⟩, fun h => by have := o23 (listed_ne (by decide) h); obtain ⟨y0, y1, y2, y3, y4, y5, y6, y7, y8, y9, y10, y11, y12, y13, y14⟩ := this; exact ⟨listed_keep y0, listed_keep y1, listed_keep y2, listed_keep y3, listed_keep y4, listed_keep y5, listed_keep y6, listed_keep y7, listed_keep y8, listed_keep y9, listed_keep y10, listed_keep y11, listed_keep y12, listed_keep y13, listed_keep y14⟩, fun h => by have := o26 (listed_ne (by decide) h); exact ⟨listed_keep this.1, listed_keep this.2⟩, fun h => wA (by rw [getD_set_ne _ (by decide)] at h; exact h), fun h h' => wB (listed_ne (by decide) h) (by rw [getD_set_ne _ (by decide)] at h'; exact h'), fun h => wC (listed_ne (by decide) h)⟩
          · injection ho with ho
            subst ho
            have d16 := hdep ⟨16, .data⟩ (by simp) rfl
            obtain rfl := f16 d16
            clear hi hdep
            refine wpOpP_of rfl rfl ?_
            go_simp
            exact hK _ _ ⟨t76, t77, t78, t79, t80, t81, t82, t83, t84, t85, t86, t87, t88, t89, t90, t91, _, (.pointer (some ⟨g, qn * 7 + 5, none⟩)), t94, t95, t96, t97, t98, t99, t100, rfl, by simpa using hsz, fun h => f0 (listed_ne (by decide) h), fun h => f1 (listed_ne (by decide) h), fun h => f2 (listed_ne (by decide) h), fun h => f3 (listed_ne (by decide) h), fun h => f4 (listed_ne (by decide) h), fun h => f5 (listed_ne (by decide) h), fun h => f6 (listed_ne (by decide) h), fun h => f7 (listed_ne (by decide) h), fun h => f8 (listed_ne (by decide) h), fun h => f9 (listed_ne (by decide) h), fun h => f10 (listed_ne (by decide) h), fun h => f14 (listed_ne (by decide) h), fun h => f15 (listed_ne (by decide) h), fun h => f16 (listed_ne (by decide) h), fun _ => rfl, fun h => f18 (listed_ne (by decide) h), fun h => f21 (listed_ne (by decide) h), fun h => f22 (listed_ne (by decide) h), fun h => f24 (listed_ne (by decide) h), fun h => f25 (listed_ne (by decide) h), fun h => f11 (listed_ne (by decide) h), fun h => by obtain ⟨g1, z, e1, e2⟩ := f12 (listed_ne (by decide) h); exact ⟨g1, z, e1, fun h' => e2 (by rw [getD_set_ne _ (by decide)] at h'; exact h')⟩, fun h => f13 (listed_ne (by decide) h), fun h => by obtain ⟨g2, e1, e2⟩ := f19 (listed_ne (by decide) h); exact ⟨g2, e1, fun h' => e2 (by rw [getD_set_ne _ (by decide)] at h'; exact h')⟩, fun h => f20 (listed_ne (by decide) h), fun h => by have := o20 (listed_ne (by decide) h); exact ⟨listed_keep this.1, listed_keep this.2⟩, fun h => by have := o23 (listed_ne (by decide) h); obtain ⟨y0, y1, y2, y3, y4, y5, y6, y7, y8, y9, y10, y11, y12, y13, y14⟩ := this; exact ⟨listed_keep y0, listed_keep y1, listed_keep y2, listed_keep y3, listed_keep y4, listed_keep y5, listed_keep y6, listed_keep y7, listed_keep y8, listed_keep y9, listed_keep y10, listed_keep y11, listed_keep y12, listed_keep y13, listed_keep y14⟩, fun h => by have := o26 (listed_ne (by decide) h); exact ⟨listed_keep this.1, listed_keep this.2⟩, fun h => wA (by rw [getD_set_ne _ (by decide)] at h; exact h), fun h h' => wB (listed_ne (by decide) h) (by rw [getD_set_ne _ (by decide)] at h'; exact h'), fun h => wC (listed_ne (by decide) h)⟩
          · injection ho with ho
            subst ho
            have d17 := hdep ⟨17, .data⟩ (by simp) rfl
            obtain rfl := f17 d17
            have h23 : listed.getD 23 false = false := by
              cases h : listed.getD 23 false with
              | false => rfl
              | true => obtain ⟨y0, y1, y2, y3, y4, y5, y6, y7, y8, y9, y10, y11, y12, y13, y14⟩ := o23 h; rw [hno] at y12; cases y12
            have HAW := Lib.hid (wA h23)
            obtain ⟨g', o', id', un', is', ma', ra', ev', ix', he', -, -, hq', e0, e1, e2, e3, e4, e5, e6⟩ := HAW.out.s.1.sec hqn
            cases he'
            rw [HQ0.out] at hq'
            cases hq'
            simp only [Nat.zero_add] at e3 e5
            clear hi hdep
            refine wpOpP_of rfl rfl ?_
            go_simp
            exact hK _ _ ⟨t76, t77, t78, t79, t80, t81, t82, t83, t84, t85, t86, t87, t88, t89, t90, t91, t92, _, (.int .i64 ev), t95, t96, t97, t98, t99, t100, rfl, by simpa using hsz, fun h => f0 (listed_ne (by decide) h), fun h => f1 (listed_ne (by decide) h), fun h => f2 (listed_ne (by decide) h), fun h => f3 (listed_ne (by decide) h), fun h => f4 (listed_ne (by decide) h), fun h => f5 (listed_ne (by decide) h), fun h => f6 (listed_ne (by decide) h), fun h => f7 (listed_ne (by decide) h), fun h => f8 (listed_ne (by decide) h), fun h => f9 (listed_ne (by decide) h), fun h => f10 (listed_ne (by decide) h), fun h => f14 (listed_ne (by decide) h), fun h => f15 (listed_ne (by decide) h), fun h => f16 (listed_ne (by decide) h), fun h => f17 (listed_ne (by decide) h), fun _ => rfl, fun h => f21 (listed_ne (by decide) h), fun h => f22 (listed_ne (by decide) h), fun h => f24 (listed_ne (by decide) h), fun h => f25 (listed_ne (by decide) h), fun h => f11 (listed_ne (by decide) h), fun h => by obtain ⟨g1, z, e1, e2⟩ := f12 (listed_ne (by decide) h); exact ⟨g1, z, e1, fun h' => e2 (by rw [getD_set_ne _ (by decide)] at h'; exact h')⟩, fun h => f13 (listed_ne (by decide) h), fun h => by obtain ⟨g2, e1, e2⟩ := f19 (listed_ne (by decide) h); exact ⟨g2, e1, fun h' => e2 (by rw [getD_set_ne _ (by decide)] at h'; exact h')⟩, fun h => f20 (listed_ne (by decide) h), fun h => by have := o20 (listed_ne (by decide) h); exact ⟨listed_keep this.1, listed_keep this.2⟩, fun h => by have := o23 (listed_ne (by decide) h); obtain ⟨y0, y1, y2, y3, y4, y5, y6, y7, y8, y9, y10, y11, y12, y13, y14⟩ := this; exact ⟨listed_keep y0, listed_keep y1, listed_keep y2, listed_keep y3, listed_keep y4, listed_keep y5, listed_keep y6, listed_keep y7, listed_keep y8, listed_keep y9, listed_keep y10, listed_keep y11, listed_keep y12, listed_keep y13, listed_keep y14⟩, fun h => by have := o26 (listed_ne (by decide) h); exact ⟨listed_keep this.1, listed_keep this.2⟩, fun h => wA (by rw [getD_set_ne _ (by decide)] at h; exact h), fun h h' => wB (listed_ne (by decide) h) (by rw [getD_set_ne _ (by decide)] at h'; exact h'), fun h => wC (listed_ne (by decide) h)⟩
          · injection ho with ho
            subst ho
            have d18 := hdep ⟨18, .data⟩ (by simp) rfl
            obtain rfl := f18 d18
            have h20 : listed.getD 20 false = false := by
              cases h : listed.getD 20 false with
              | false => rfl
              | true => have := (o20 h).2; rw [hno] at this; cases this
            have h23 : listed.getD 23 false = false := by
              cases h : listed.getD 23 false with
              | false => rfl
              | true => obtain ⟨y0, y1, y2, y3, y4, y5, y6, y7, y8, y9, y10, y11, y12, y13, y14⟩ := o23 h; rw [h20] at y13; cases y13
            have HAW := Lib.hid (wA h23)
            clear hi hdep
            refine wpOpP_of rfl rfl ?_
            go_simp
            exact hK _ _ ⟨t76, t77, t78, t79, t80, t81, t82, t83, t84, t85, t86, t87, t88, t89, t90, t91, t92, t93, _, (_), t96, t97, t98, t99, t100, rfl, by simpa using hsz, fun h => f0 (listed_ne (by decide) h), fun h => f1 (listed_ne (by decide) h), fun h => f2 (listed_ne (by decide) h), fun h => f3 (listed_ne (by decide) h), fun h => f4 (listed_ne (by decide) h), fun h => f5 (listed_ne (by decide) h), fun h => f6 (listed_ne (by decide) h), fun h => f7 (listed_ne (by decide) h), fun h => f8 (listed_ne (by decide) h), fun h => f9 (listed_ne (by decide) h), fun h => f10 (listed_ne (by decide) h), fun h => f14 (listed_ne (by decide) h), fun h => f15 (listed_ne (by decide) h), fun h => f16 (listed_ne (by decide) h), fun h => f17 (listed_ne (by decide) h), fun h => f18 (listed_ne (by decide) h), fun h => f21 (listed_ne (by decide) h), fun h => f22 (listed_ne (by decide) h), fun h => f24 (listed_ne (by decide) h), fun h => f25 (listed_ne (by decide) h), fun h => f11 (listed_ne (by decide) h), fun h => by obtain ⟨g1, z, e1, e2⟩ := f12 (listed_ne (by decide) h); exact ⟨g1, z, e1, fun h' => by have k := e2 (by rw [getD_set_ne _ (by decide)] at h'; exact h'); exact ⟨k.1, keepA k.2.1, keepA k.2.2.1, keepA k.2.2.2⟩⟩, fun h => f13 (listed_ne (by decide) h), fun _ => ⟨_, rfl, fun _ => ⟨HAW.out.l3, cell_heap (i := 0) (heap_alloc_new w' _) rfl, cell_heap (i := 1) (heap_alloc_new w' _) rfl, cell_heap (i := 2) (heap_alloc_new w' _) rfl⟩⟩, fun h => f20 (listed_ne (by decide) h), fun h => by have := o20 (listed_ne (by decide) h); exact ⟨listed_keep this.1, listed_keep this.2⟩, fun h => by have := o23 (listed_ne (by decide) h); obtain ⟨y0, y1, y2, y3, y4, y5, y6, y7, y8, y9, y10, y11, y12, y13, y14⟩ := this; exact ⟨listed_keep y0, listed_keep y1, listed_keep y2, listed_keep y3, listed_keep y4, listed_keep y5, listed_keep y6, listed_keep y7, listed_keep y8, listed_keep y9, listed_keep y10, listed_keep y11, listed_keep y12, listed_keep y13, listed_keep y14⟩, fun h => by have := o26 (listed_ne (by decide) h); exact ⟨listed_keep this.1, listed_keep this.2⟩, fun _ => HAW.out.grown (World.grownBy_alloc w' _ _) (srcOk_alloc HAW.out.so _), fun h => absurd (listed_ne (by decide) h) (by rw [h23]; decide), fun h => absurd (o26 (listed_ne (by decide) h)).1 (by rw [h23]; decide)⟩
          · injection ho with ho
            subst ho
            have d14 := hdep ⟨14, .data⟩ (by simp) rfl
            have d19 := hdep ⟨19, .data⟩ (by simp) rfl
            have d13 := hdep ⟨13, .chain⟩ (by simp) rfl
            obtain rfl := f14 d14
            have h23 : listed.getD 23 false = false := by
              cases h : listed.getD 23 false with
              | false => rfl
              | true => obtain ⟨y0, y1, y2, y3, y4, y5, y6, y7, y8, y9, y10, y11, y12, y13, y14⟩ := o23 h; rw [hno] at y13; cases y13
            have HAW := Lib.hid (wA h23)
            obtain ⟨g2, rfl, hcc⟩ := f19 d19
            obtain ⟨hc0, hc1, hc2, hc3⟩ := hcc hno
            have hsg : w3.heap.size ≤ g2 := hc0
            clear hi hdep
            refine wpOpP_of rfl rfl ?_
            go_simp
            refine (pick_any sb g2 [0, 2, ev] 3 3 w' HAW.out.so (by omega) (by decide) (by decide) rfl (by intro i h; match i, h with | 0, _ => exact hc1 | 1, _ => exact hc2 | 2, _ => exact hc3)).mono ?_
            rintro e w9 ⟨u, hu, rfl, hS9, hG9⟩
            exact hK _ _ ⟨t76, t77, t78, t79, t80, t81, t82, t83, t84, t85, t86, t87, t88, t89, _, t91, t92, t93, t94, _, (_), t97, t98, t99, t100, rfl, by simpa using hsz, fun h => f0 (listed_ne (by decide) h), fun h => f1 (listed_ne (by decide) h), fun h => f2 (listed_ne (by decide) h), fun h => f3 (listed_ne (by decide) h), fun h => f4 (listed_ne (by decide) h), fun h => f5 (listed_ne (by decide) h), fun h => f6 (listed_ne (by decide) h), fun h => f7 (listed_ne (by decide) h), fun h => f8 (listed_ne (by decide) h), fun h => f9 (listed_ne (by decide) h), fun h => f10 (listed_ne (by decide) h), fun h => f14 (listed_ne (by decide) h), fun h => f15 (listed_ne (by decide) h), fun h => f16 (listed_ne (by decide) h), fun h => f17 (listed_ne (by decide) h), fun h => f18 (listed_ne (by decide) h), fun h => f21 (listed_ne (by decide) h), fun h => f22 (listed_ne (by decide) h), fun h => f24 (listed_ne (by decide) h), fun h => f25 (listed_ne (by decide) h), fun h => f11 (listed_ne (by decide) h), fun h => by obtain ⟨g1, z, e1, e2⟩ := f12 (listed_ne (by decide) h); exact ⟨g1, z, e1, fun h' => by have k := e2 (by rw [getD_set_ne _ (by decide)] at h'; exact h'); exact ⟨k.1, cell_gr hG9 (by omega) k.2.1, cell_gr hG9 (by omega) k.2.2.1, cell_gr hG9 (by omega) k.2.2.2⟩⟩, fun h => f13 (listed_ne (by decide) h), fun _ => ⟨g2, rfl, fun h' => absurd hself (by rw [h']; decide)⟩, fun _ => ⟨_, rfl⟩, fun _ => ⟨listed_keep d13, listed_keep d19⟩, fun h => by have := o23 (listed_ne (by decide) h); obtain ⟨y0, y1, y2, y3, y4, y5, y6, y7, y8, y9, y10, y11, y12, y13, y14⟩ := this; exact ⟨listed_keep y0, listed_keep y1, listed_keep y2, listed_keep y3, listed_keep y4, listed_keep y5, listed_keep y6, listed_keep y7, listed_keep y8, listed_keep y9, listed_keep y10, listed_keep y11, listed_keep y12, listed_keep y13, listed_keep y14⟩, fun h => by have := o26 (listed_ne (by decide) h); exact ⟨listed_keep this.1, listed_keep this.2⟩, fun _ => HAW.out.grown hG9 hS9, fun h => absurd (listed_ne (by decide) h) (by rw [h23]; decide), fun h => absurd (o26 (listed_ne (by decide) h)).1 (by rw [h23]; decide)⟩
          · injection ho with ho
            subst ho
            have d0 := hdep ⟨0, .data⟩ (by simp) rfl
            obtain rfl := f0 d0
            clear hi hdep
            refine wpOpP_of rfl rfl ?_
            go_simp
            exact hK _ _ ⟨_, t77, t78, t79, t80, t81, t82, t83, t84, t85, t86, t87, t88, t89, t90, t91, t92, t93, t94, t95, t96, (.pointer (some ⟨g, qn * 7, none⟩)), t98, t99, t100, rfl, by simpa using hsz, fun h => f0 (listed_ne (by decide) h), fun h => f1 (listed_ne (by decide) h), fun h => f2 (listed_ne (by decide) h), fun h => f3 (listed_ne (by decide) h), fun h => f4 (listed_ne (by decide) h), fun h => f5 (listed_ne (by decide) h), fun h => f6 (listed_ne (by decide) h), fun h => f7 (listed_ne (by decide) h), fun h => f8 (listed_ne (by decide) h), fun h => f9 (listed_ne (by decide) h), fun h => f10 (listed_ne (by decide) h), fun h => f14 (listed_ne (by decide) h), fun h => f15 (listed_ne (by decide) h), fun h => f16 (listed_ne (by decide) h), fun h => f17 (listed_ne (by decide) h), fun h => f18 (listed_ne (by decide) h), fun _ => rfl, fun h => f22 (listed_ne (by decide) h), fun h => f24 (listed_ne (by decide) h), fun h => f25 (listed_ne (by decide) h), fun h => f11 (listed_ne (by decide) h), fun h => by obtain ⟨g1, z, e1, e2⟩ := f12 (listed_ne (by decide) h); exact ⟨g1, z, e1, fun h' => e2 (by rw [getD_set_ne _ (by decide)] at h'; exact h')⟩, fun h => f13 (listed_ne (by decide) h), fun h => by obtain ⟨g2, e1, e2⟩ := f19 (listed_ne (by decide) h); exact ⟨g2, e1, fun h' => e2 (by rw [getD_set_ne _ (by decide)] at h'; exact h')⟩, fun h => f20 (listed_ne (by decide) h), fun h => by have := o20 (listed_ne (by decide) h); exact ⟨listed_keep this.1, listed_keep this.2⟩, fun h => by have := o23 (listed_ne (by decide) h); obtain ⟨y0, y1, y2, y3, y4, y5, y6, y7, y8, y9, y10, y11, y12, y13, y14⟩ := this; exact ⟨listed_keep y0, listed_keep y1, listed_keep y2, listed_keep y3, listed_keep y4, listed_keep y5, listed_keep y6, listed_keep y7, listed_keep y8, listed_keep y9, listed_keep y10, listed_keep y11, listed_keep y12, listed_keep y13, listed_keep y14⟩, fun h => by have := o26 (listed_ne (by decide) h); exact ⟨listed_keep this.1, listed_keep this.2⟩, fun h => wA (by rw [getD_set_ne _ (by decide)] at h; exact h), fun h h' => wB (listed_ne (by decide) h) (by rw [getD_set_ne _ (by decide)] at h'; exact h'), fun h => wC (listed_ne (by decide) h)⟩
          · injection ho with ho
            subst ho
            have d21 := hdep ⟨21, .data⟩ (by simp) rfl
            obtain rfl := f21 d21
            clear hi hdep
            refine wpOpP_of rfl rfl ?_
            go_simp
            exact hK _ _ ⟨t76, t77, t78, t79, t80, t81, t82, t83, t84, t85, t86, t87, t88, t89, t90, t91, t92, t93, t94, t95, t96, _, (.pointer (some ⟨g, qn * 7 + 3, none⟩)), t99, t100, rfl, by simpa using hsz, fun h => f0 (listed_ne (by decide) h), fun h => f1 (listed_ne (by decide) h), fun h => f2 (listed_ne (by decide) h), fun h => f3 (listed_ne (by decide) h), fun h => f4 (listed_ne (by decide) h), fun h => f5 (listed_ne (by decide) h), fun h => f6 (listed_ne (by decide) h), fun h => f7 (listed_ne (by decide) h), fun h => f8 (listed_ne (by decide) h), fun h => f9 (listed_ne (by decide) h), fun h => f10 (listed_ne (by decide) h), fun h => f14 (listed_ne (by decide) h), fun h => f15 (listed_ne (by decide) h), fun h => f16 (listed_ne (by decide) h), fun h => f17 (listed_ne (by decide) h), fun h => f18 (listed_ne (by decide) h), fun h => f21 (listed_ne (by decide) h), fun _ => rfl, fun h => f24 (listed_ne (by decide) h), fun h => f25 (listed_ne (by decide) h), fun h => f11 (listed_ne (by decide) h), fun h => by obtain ⟨g1, z, e1, e2⟩ := f12 (listed_ne (by decide) h); exact ⟨g1, z, e1, fun h' => e2 (by rw [getD_set_ne _ (by decide)] at h'; exact h')⟩, fun h => f13 (listed_ne (by decide) h), fun h => by obtain ⟨g2, e1, e2⟩ := f19 (listed_ne (by decide) h); exact ⟨g2, e1, fun h' => e2 (by rw [getD_set_ne _ (by decide)] at h'; exact h')⟩, fun h => f20 (listed_ne (by decide) h), fun h => by have := o20 (listed_ne (by decide) h); exact ⟨listed_keep this.1, listed_keep this.2⟩, fun h => by have := o23 (listed_ne (by decide) h); obtain ⟨y0, y1, y2, y3, y4, y5, y6, y7, y8, y9, y10, y11, y12, y13, y14⟩ := this; exact ⟨listed_keep y0, listed_keep y1, listed_keep y2, listed_keep y3, listed_keep y4, listed_keep y5, listed_keep y6, listed_keep y7, listed_keep y8, listed_keep y9, listed_keep y10, listed_keep y11, listed_keep y12, listed_keep y13, listed_keep y14⟩, fun h => by have := o26 (listed_ne (by decide) h); exact ⟨listed_keep this.1, listed_keep this.2⟩, fun h => wA (by rw [getD_set_ne _ (by decide)] at h; exact h), fun h h' => wB (listed_ne (by decide) h) (by rw [getD_set_ne _ (by decide)] at h'; exact h'), fun h => wC (listed_ne (by decide) h)⟩
          · injection ho with ho
            subst ho
            have d22 := hdep ⟨22, .data⟩ (by simp) rfl
            have d13 := hdep ⟨13, .data⟩ (by simp) rfl
            obtain rfl := f22 d22
            obtain ⟨z13, rfl⟩ := f13 d13
            have d2 := hdep ⟨2, .phase⟩ (by simp) rfl
            have d3 := hdep ⟨3, .phase⟩ (by simp) rfl
            have d4 := hdep ⟨4, .phase⟩ (by simp) rfl
            have d5 := hdep ⟨5, .phase⟩ (by simp) rfl
            have d6 := hdep ⟨6, .phase⟩ (by simp) rfl
            have d7 := hdep ⟨7, .phase⟩ (by simp) rfl
            have d8 := hdep ⟨8, .phase⟩ (by simp) rfl
            have d9 := hdep ⟨9, .phase⟩ (by simp) rfl
            have d10 := hdep ⟨10, .phase⟩ (by simp) rfl
            have d11 := hdep ⟨11, .phase⟩ (by simp) rfl
            have d12 := hdep ⟨12, .phase⟩ (by simp) rfl
            have d18 := hdep ⟨18, .phase⟩ (by simp) rfl
            have d20 := hdep ⟨20, .phase⟩ (by simp) rfl
            have d0 := hdep ⟨0, .phase⟩ (by simp) rfl
            obtain rfl := f0 d0
            obtain rfl := f2 d2
            obtain rfl := f3 d3
            obtain rfl := f4 d4
            obtain rfl := f5 d5
            obtain rfl := f6 d6
            obtain rfl := f7 d7
            obtain rfl := f8 d8
            obtain rfl := f9 d9
            obtain rfl := f10 d10
            obtain rfl := f18 d18
            have h26 : listed.getD 26 false = false := by
              cases h : listed.getD 26 false with
              | false => rfl
              | true => have := (o26 h).1; rw [hno] at this; cases this
            have HAW := Lib.hid (⟨R.secs, rfl, wA hno⟩ : ∃ S', S'.length = R.secs.length ∧ At4 w.heap.size sb W0.heap.size w1.heap.size W1.heap.size w2.heap.size W2.heap.size w3.heap.size w w' (.slice (some ⟨g, 0, none⟩) R.secs.length sc) (.slice h0 R.hs.length hc) (.slice m0 R.ms.length mc) S' R.hs R.ms)
            obtain ⟨S', hSl, hat⟩ := HAW.out
            obtain ⟨g', o', id', un', is', ma', ra', ev', ix', he', -, -, hq', e0, e1, e2, e3, e4, e5, e6⟩ := hat.s.1.sec hqn
            cases he'
            simp only [Nat.zero_add] at e3 e5
            have hneS : S' ≠ [] := by intro h; rw [h] at hSl; simp at hSl; omega
            have df := (Mine.fro hat.s hneS) (qn * 7 + 3)
            have HSET := Lib.hid (hat.setS hgg (q := qn) (d := 3) (a' := ⟨id', un', is', z13, ra', ev', ix'⟩) hq' (by decide) rfl (by intro i hi; rcases i with _ | _ | _ | _ | _ | _ | _ | i <;> first | exact absurd rfl hi | rfl))
            clear hi hdep hat e0 e1 e2 e4 e6
            refine wpOpP_of rfl rfl ?_
            go_simp
            exact hK _ _ ⟨_, t77, _, _, _, _, _, _, _, _, _, t87, t88, _, t90, t91, t92, t93, _, t95, t96, t97, _, t99, t100, rfl, by simpa using hsz, fun h => f0 (listed_ne (by decide) h), fun h => f1 (listed_ne (by decide) h), fun h => f2 (listed_ne (by decide) h), fun h => f3 (listed_ne (by decide) h), fun h => f4 (listed_ne (by decide) h), fun h => f5 (listed_ne (by decide) h), fun h => f6 (listed_ne (by decide) h), fun h => f7 (listed_ne (by decide) h), fun h => f8 (listed_ne (by decide) h), fun h => f9 (listed_ne (by decide) h), fun h => f10 (listed_ne (by decide) h), fun h => f14 (listed_ne (by decide) h), fun h => f15 (listed_ne (by decide) h), fun h => f16 (listed_ne (by decide) h), fun h => f17 (listed_ne (by decide) h), fun h => f18 (listed_ne (by decide) h), fun h => f21 (listed_ne (by decide) h), fun h => f22 (listed_ne (by decide) h), fun h => f24 (listed_ne (by decide) h), fun h => f25 (listed_ne (by decide) h), fun h => f11 (listed_ne (by decide) h), fun h => by obtain ⟨g1, z, e1, e2⟩ := f12 (listed_ne (by decide) h); exact ⟨g1, z, e1, fun h' => absurd (listed_keep (i := 23) d13) (by rw [h']; decide)⟩, fun h => f13 (listed_ne (by decide) h), fun h => by obtain ⟨g2, e1, e2⟩ := f19 (listed_ne (by decide) h); exact ⟨g2, e1, fun h' => absurd (listed_keep (i := 23) d20) (by rw [h']; decide)⟩, fun h => f20 (listed_ne (by decide) h), fun h => by have := o20 (listed_ne (by decide) h); exact ⟨listed_keep this.1, listed_keep this.2⟩, fun _ => ⟨listed_keep d2, listed_keep d3, listed_keep d4, listed_keep d5, listed_keep d6, listed_keep d7, listed_keep d8, listed_keep d9, listed_keep d10, listed_keep d11, listed_keep d12, listed_keep d13, listed_keep d18, listed_keep d20, listed_keep d0⟩, fun h => by have := o26 (listed_ne (by decide) h); exact ⟨listed_keep this.1, listed_keep this.2⟩, fun h => absurd hself (by rw [h]; decide), fun _ _ => ⟨_, by rw [List.length_set]; exact hSl, HSET.out⟩, fun h => absurd (listed_ne (by decide) h) (by rw [h26]; decide)⟩
          · injection ho with ho
            subst ho
            have d1 := hdep ⟨1, .data⟩ (by simp) rfl
            obtain rfl := f1 d1
            clear hi hdep
            refine wpOpP_of rfl rfl ?_
            go_simp
            exact hK _ _ ⟨t76, _, t78, t79, t80, t81, t82, t83, t84, t85, t86, t87, t88, t89, t90, t91, t92, t93, t94, t95, t96, t97, t98, (.pointer (some ⟨g, qn * 7, none⟩)), t100, rfl, by simpa using hsz, fun h => f0 (listed_ne (by decide) h), fun h => f1 (listed_ne (by decide) h), fun h => f2 (listed_ne (by decide) h), fun h => f3 (listed_ne (by decide) h), fun h => f4 (listed_ne (by decide) h), fun h => f5 (listed_ne (by decide) h), fun h => f6 (listed_ne (by decide) h), fun h => f7 (listed_ne (by decide) h), fun h => f8 (listed_ne (by decide) h), fun h => f9 (listed_ne (by decide) h), fun h => f10 (listed_ne (by decide) h), fun h => f14 (listed_ne (by decide) h), fun h => f15 (listed_ne (by decide) h), fun h => f16 (listed_ne (by decide) h), fun h => f17 (listed_ne (by decide) h), fun h => f18 (listed_ne (by decide) h), fun h => f21 (listed_ne (by decide) h), fun h => f22 (listed_ne (by decide) h), fun _ => rfl, fun h => f25 (listed_ne (by decide) h), fun h => f11 (listed_ne (by decide) h), fun h => by obtain ⟨g1, z, e1, e2⟩ := f12 (listed_ne (by decide) h); exact ⟨g1, z, e1, fun h' => e2 (by rw [getD_set_ne _ (by decide)] at h'; exact h')⟩, fun h => f13 (listed_ne (by decide) h), fun h => by obtain ⟨g2, e1, e2⟩ := f19 (listed_ne (by decide) h); exact ⟨g2, e1, fun h' => e2 (by rw [getD_set_ne _ (by decide)] at h'; exact h')⟩, fun h => f20 (listed_ne (by decide) h), fun h => by have := o20 (listed_ne (by decide) h); exact ⟨listed_keep this.1, listed_keep this.2⟩, fun h => by have := o23 (listed_ne (by decide) h); obtain ⟨y0, y1, y2, y3, y4, y5, y6, y7, y8, y9, y10, y11, y12, y13, y14⟩ := this; exact ⟨listed_keep y0, listed_keep y1, listed_keep y2, listed_keep y3, listed_keep y4, listed_keep y5, listed_keep y6, listed_keep y7, listed_keep y8, listed_keep y9, listed_keep y10, listed_keep y11, listed_keep y12, listed_keep y13, listed_keep y14⟩, fun h => by have := o26 (listed_ne (by decide) h); exact ⟨listed_keep this.1, listed_keep this.2⟩, fun h => wA (by rw [getD_set_ne _ (by decide)] at h; exact h), fun h h' => wB (listed_ne (by decide) h) (by rw [getD_set_ne _ (by decide)] at h'; exact h'), fun h => wC (listed_ne (by decide) h)⟩
          · injection ho with ho
            subst ho
            have d24 := hdep ⟨24, .data⟩ (by simp) rfl
            obtain rfl := f24 d24
            clear hi hdep
            refine wpOpP_of rfl rfl ?_
            go_simp
            exact hK _ _ ⟨t76, t77, t78, t79, t80, t81, t82, t83, t84, t85, t86, t87, t88, t89, t90, t91, t92, t93, t94, t95, t96, t97, t98, _, (.pointer (some ⟨g, qn * 7 + 5, none⟩)), rfl, by simpa using hsz, fun h => f0 (listed_ne (by decide) h), fun h => f1 (listed_ne (by decide) h), fun h => f2 (listed_ne (by decide) h), fun h => f3 (listed_ne (by decide) h), fun h => f4 (listed_ne (by decide) h), fun h => f5 (listed_ne (by decide) h), fun h => f6 (listed_ne (by decide) h), fun h => f7 (listed_ne (by decide) h), fun h => f8 (listed_ne (by decide) h), fun h => f9 (listed_ne (by decide) h), fun h => f10 (listed_ne (by decide) h), fun h => f14 (listed_ne (by decide) h), fun h => f15 (listed_ne (by decide) h), fun h => f16 (listed_ne (by decide) h), fun h => f17 (listed_ne (by decide) h), fun h => f18 (listed_ne (by decide) h), fun h => f21 (listed_ne (by decide) h), fun h => f22 (listed_ne (by decide) h), fun h => f24 (listed_ne (by decide) h), fun _ => rfl, fun h => f11 (listed_ne (by decide) h), fun h => by obtain ⟨g1, z, e1, e2⟩ := f12 (listed_ne (by decide) h); exact ⟨g1, z, e1, fun h' => e2 (by rw [getD_set_ne _ (by decide)] at h'; exact h')⟩, fun h => f13 (listed_ne (by decide) h), fun h => by obtain ⟨g2, e1, e2⟩ := f19 (listed_ne (by decide) h); exact ⟨g2, e1, fun h' => e2 (by rw [getD_set_ne _ (by decide)] at h'; exact h')⟩, fun h => f20 (listed_ne (by decide) h), fun h => by have := o20 (listed_ne (by decide) h); exact ⟨listed_keep this.1, listed_keep this.2⟩, fun h => by have := o23 (listed_ne (by decide) h); obtain ⟨y0, y1, y2, y3, y4, y5, y6, y7, y8, y9, y10, y11, y12, y13, y14⟩ := this; exact ⟨listed_keep y0, listed_keep y1, listed_keep y2, listed_keep y3, listed_keep y4, listed_keep y5, listed_keep y6, listed_keep y7, listed_keep y8, listed_keep y9, listed_keep y10, listed_keep y11, listed_keep y12, listed_keep y13, listed_keep y14⟩, fun h => by have := o26 (listed_ne (by decide) h); exact ⟨listed_keep this.1, listed_keep this.2⟩, fun h => wA (by rw [getD_set_ne _ (by decide)] at h; exact h), fun h h' => wB (listed_ne (by decide) h) (by rw [getD_set_ne _ (by decide)] at h'; exact h'), fun h => wC (listed_ne (by decide) h)⟩
          · injection ho with ho
            subst ho
            have d25 := hdep ⟨25, .data⟩ (by simp) rfl
            have d20 := hdep ⟨20, .data⟩ (by simp) rfl
            obtain rfl := f25 d25
            obtain ⟨z20, rfl⟩ := f20 d20
            have d23 := hdep ⟨23, .phase⟩ (by simp) rfl
            have d1 := hdep ⟨1, .phase⟩ (by simp) rfl
            obtain rfl := f1 d1
            obtain ⟨y0, y1, y2, y3, y4, y5, y6, y7, y8, y9, y10, y11, y12, y13, y14⟩ := o23 d23
            obtain rfl := f2 y0
            obtain rfl := f3 y1
            obtain rfl := f4 y2
            obtain rfl := f5 y3
            obtain rfl := f6 y4
            obtain rfl := f7 y5
            obtain rfl := f8 y6
            obtain rfl := f9 y7
            obtain rfl := f10 y8
            obtain rfl := f18 y12
            obtain rfl := f0 y14
            have HAW := Lib.hid (wB d23 hno)
            obtain ⟨S', hSl, hat⟩ := HAW.out
            obtain ⟨g', o', id', un', is', ma', ra', ev', ix', he', -, -, hq', e0, e1, e2, e3, e4, e5, e6⟩ := hat.s.1.sec hqn
            cases he'
            simp only [Nat.zero_add] at e3 e5
            have hneS : S' ≠ [] := by intro h; rw [h] at hSl; simp at hSl; omega
            have df := (Mine.fro hat.s hneS) (qn * 7 + 5)
            have HSET := Lib.hid (hat.setS hgg (q := qn) (d := 5) (a' := ⟨id', un', is', ma', ra', z20, ix'⟩) hq' (by decide) rfl (by intro i hi; rcases i with _ | _ | _ | _ | _ | _ | _ | i <;> first | exact absurd rfl hi | rfl))
            clear hi hdep hat e0 e1 e2 e4 e6
            refine wpOpP_of rfl rfl ?_
            go_simp
            exact hK _ _ ⟨_, _, _, _, _, _, _, _, _, _, _, t87, t88, t89, t90, t91, t92, t93, _, t95, _, t97, t98, t99, _, rfl, by simpa using hsz, fun h => f0 (listed_ne (by decide) h), fun h => f1 (listed_ne (by decide) h), fun h => f2 (listed_ne (by decide) h), fun h => f3 (listed_ne (by decide) h), fun h => f4 (listed_ne (by decide) h), fun h => f5 (listed_ne (by decide) h), fun h => f6 (listed_ne (by decide) h), fun h => f7 (listed_ne (by decide) h), fun h => f8 (listed_ne (by decide) h), fun h => f9 (listed_ne (by decide) h), fun h => f10 (listed_ne (by decide) h), fun h => f14 (listed_ne (by decide) h), fun h => f15 (listed_ne (by decide) h), fun h => f16 (listed_ne (by decide) h), fun h => f17 (listed_ne (by decide) h), fun h => f18 (listed_ne (by decide) h), fun h => f21 (listed_ne (by decide) h), fun h => f22 (listed_ne (by decide) h), fun h => f24 (listed_ne (by decide) h), fun h => f25 (listed_ne (by decide) h), fun h => f11 (listed_ne (by decide) h), fun h => by obtain ⟨g1, z, e1, e2⟩ := f12 (listed_ne (by decide) h); exact ⟨g1, z, e1, fun h' => absurd (listed_keep (i := 26) (o20 d20).1) (by rw [h']; decide)⟩, fun h => f13 (listed_ne (by decide) h), fun h => by obtain ⟨g2, e1, e2⟩ := f19 (listed_ne (by decide) h); exact ⟨g2, e1, fun h' => absurd (listed_keep (i := 26) d20) (by rw [h']; decide)⟩, fun h => f20 (listed_ne (by decide) h), fun h => by have := o20 (listed_ne (by decide) h); exact ⟨listed_keep this.1, listed_keep this.2⟩, fun h => by have := o23 (listed_ne (by decide) h); obtain ⟨y0, y1, y2, y3, y4, y5, y6, y7, y8, y9, y10, y11, y12, y13, y14⟩ := this; exact ⟨listed_keep y0, listed_keep y1, listed_keep y2, listed_keep y3, listed_keep y4, listed_keep y5, listed_keep y6, listed_keep y7, listed_keep y8, listed_keep y9, listed_keep y10, listed_keep y11, listed_keep y12, listed_keep y13, listed_keep y14⟩, fun _ => ⟨listed_keep d23, listed_keep d1⟩, fun h => absurd (listed_keep (i := 26) d23) (by rw [h]; decide), fun _ h => absurd hself (by rw [h]; decide), fun _ => ⟨_, by rw [List.length_set]; exact hSl, HSET.out⟩⟩
        case fin =>
          rintro listed a' w' ⟨t76, t77, t78, t79, t80, t81, t82, t83, t84, t85, t86, t87, t88, t89, t90, t91, t92, t93, t94, t95, t96, t97, t98, t99, t100, rfl, hsz, f0, f1, f2, f3, f4, f5, f6, f7, f8, f9, f10, f14, f15, f16, f17, f18, f21, f22, f24, f25, f11, f12, f13, f19, f20, o20, o23, o26, wA, wB, wC⟩ hr
          have hfull := ready_full hsz hr (by kernel_rfl)
          obtain ⟨S', hSl, hat⟩ := wC (hfull 26 (by decide))
          have HF := Lib.hid (hat.fin (R := R) hSl (by omega) rfl)
          clear hat
          go_wp2
          go_meet
          exact HF.out
        -- END0
    · by_cases hh0 : R.hs = []
      · have hl0 : R.hs.length = 0 := by rw [hh0]; rfl
        have bf1 := frozen_of_row w4 _ 1 _ _ HAT.out.box
        go_wp2
        go_meet
        have hxV := heap_setCell_same w4 _ 1 _ _ (.slice (some ⟨w4.heap.size, 0, none⟩) 1 1) HAT.out.box
        have hyV := (set_other w4 w.heap.size 1 (.slice (some ⟨w4.heap.size, 0, none⟩) 1 1) (k := w.heap.size + 1) (by omega)).trans HAT.out.res
        have hzV := set_size w4 ⟨w.heap.size, 1, none⟩ (.slice (some ⟨w4.heap.size, 0, none⟩) 1 1)
        have hSV := srcOk_below HAT.out.so ((Below.refl w.heap.size w4).setCell (p := ⟨w.heap.size, 1, none⟩) (Nat.le_refl _) (.slice (some ⟨w4.heap.size, 0, none⟩) 1 1)) hlt
        have hgV := grown_set (o := 1) (v := .slice (some ⟨w4.heap.size, 0, none⟩) 1 1) HAT.out.g (Nat.le_refl w.heap.size)
        have hsV : Sl 7 encSec (fun b => w.heap.size + 2 ≤ b) (w4.setCell ⟨w.heap.size, 1, none⟩ (.slice (some ⟨w4.heap.size, 0, none⟩) 1 1)) (.slice s0 R.secs.length sc) R.secs := (HAT.out.s.1.mono (Q := fun b => w.heap.size + 2 ≤ b) fun b hb _ => by omega).block (by rw [set_size]; exact Nat.le_refl _) (fun b hp _ => set_other _ _ _ _ (by omega))
        have hmV : Sl 7 encMv (fun b => w.heap.size + 2 ≤ b) (w4.setCell ⟨w.heap.size, 1, none⟩ (.slice (some ⟨w4.heap.size, 0, none⟩) 1 1)) (.slice m0 R.ms.length mc) R.ms := (HAT.out.m.1.mono (Q := fun b => w.heap.size + 2 ≤ b) fun b hb _ => by omega).block (by rw [set_size]; exact Nat.le_refl _) (fun b hp _ => set_other _ _ _ _ (by omega))
        generalize w4.setCell ⟨w.heap.size, 1, none⟩ (.slice (some ⟨w4.heap.size, 0, none⟩) 1 1) = V at hxV hyV hzV hSV hgV hsV hmV ⊢
        have hnr : Sl 3 encHold (fun b => w.heap.size + 2 ≤ b) (V.alloc (.cells #[.int .i64 1, .int .i64 1, .int .i64 5] 98)) (.slice (some ⟨w4.heap.size, 0, none⟩) 1 1) [⟨1, 1, 5⟩] := by
          refine ⟨_, 1, 1, rfl, rfl, Nat.le_refl _, by unfold maxLen; omega, .inr ⟨w4.heap.size, 0, rfl, by omega, by simp; omega, fun j a hj i u hi => ?_⟩⟩
          have hh := heap_alloc_new V (.cells #[.int .i64 1, .int .i64 1, .int .i64 5] 98)
          rw [hzV] at hh
          match j, hj with
          | 0, hj => simp at hj; subst hj; match i, hi with
            | 0, hi => simp [encHold] at hi; subst hi; exact cell_heap (i := 0) hh rfl
            | 1, hi => simp [encHold] at hi; subst hi; exact cell_heap (i := 1) hh rfl
            | 2, hi => simp [encHold] at hi; subst hi; exact cell_heap (i := 2) hh rfl
            | i + 3, hi => simp [encHold] at hi
          | j + 1, hj => simp at hj
        exact ⟨_, _, _, _, _, 1, 1, _, _, ⟨R.secs, [⟨1, 1, 5⟩], R.ms⟩, ⟨rfl, by simp, rfl⟩, keep_boxS (bal brefl _) hxV, keep_boxS (bal brefl _) hyV, ⟨hsV.alloc _, hnr, hmV.alloc _⟩, srcOk_alloc hSV _, grownBy_trans hgV (World.grownBy_alloc V _ _)⟩
      · obtain ⟨g, gc, he, hgg, hfr⟩ := HAT.out.h.2.resolve_left hh0
        cases he
        have hn0 : 0 < R.hs.length := List.length_pos_iff.2 hh0
        go_upto_region 21 with fail
        go_region_with (go_at_call 13; refine (n_any sb (R.hs.length : Int) _ (srcOk_drewN HAT.out.so 1) (by omega)).mono ?_; rintro e w5 ⟨v, hv, rfl, hS5, hG5⟩; obtain ⟨qn, rfl⟩ : ∃ k : Nat, v = k := ⟨v.toNat, by omega⟩; have hqn : qn < R.hs.length := (by omega); have hat := HAT.out.grown (grownBy_undrew hG5) hS5; obtain ⟨g', o', xs, xh, xa, he', -, -, hq0, d0, d1, d2⟩ := hat.h.1.hold hqn; cases he'; simp only [Nat.zero_add] at d0 d1 d2; have df := (Mine.fro hat.h hh0) (qn * 3 + 2); have bb0 := cell_heap (i := 0) hat.box rfl; have bb1 := cell_heap (i := 1) hat.box rfl; have bb2 := cell_heap (i := 2) hat.box rfl; have HQ0 := Lib.hid hq0; have HAT5 := Lib.hid hat; clear hat hS5 hG5 hv hq0)
        all_goals (go_wp2_with fail; go_meet)
        all_goals exact (HAT5.out.setH hgg (q := qn) (d := 2) (a' := ⟨xs, xh, _⟩) HQ0.out (by decide) rfl (by intro i hi; rcases i with _ | _ | _ | i <;> first | exact absurd rfl hi | rfl)).fin rfl (by rw [List.length_set]; omega) rfl
    · have hne : R.secs ≠ [] := by intro h; rw [h] at hS; simp at hS
      obtain ⟨g, gc, he, hgg, hfr⟩ := HAT.out.s.2.resolve_left hne
      cases he
      have hS0 : 0 < R.secs.length := hS.1
      go_upto_region 24 with fail
      go_region_with (go_at_call 15; refine (pick_lit sb [0, 9, 1001] _ _ _ _ (srcOk_drewN HAT.out.so 1) (by decide) (by decide) rfl rfl rfl).mono ?_; rintro e w5 ⟨u, hu, rfl, hS5, hG5⟩; have hat := HAT.out.grown (grownBy_undrew hG5) hS5; obtain ⟨g', o', id, un, is, ma, ra, ev, ix, he', -, -, hq0, d0, d1, d2, d3, d4, d5, d6⟩ := hat.s.1.sec hS0; cases he'; simp only [Nat.zero_mul, Nat.add_zero] at d0; have df := (Mine.fro hat.s hne) 0; have bb0 := cell_heap (i := 0) hat.box rfl; have bb1 := cell_heap (i := 1) hat.box rfl; have bb2 := cell_heap (i := 2) hat.box rfl; have HQ0 := Lib.hid hq0; have HAT5 := Lib.hid hat; clear hat hS5 hG5 hu hq0 d1 d2 d3 d4 d5 d6)
      all_goals (go_wp2_with fail; go_meet)
      all_goals show EndB sb R w (w5.setCell ⟨g, 0 * 7 + 0, none⟩ (.int .i64 u))
      all_goals exact (HAT5.out.setS hgg (q := 0) (d := 0) (a' := ⟨u, un, is, ma, ra, ev, ix⟩) HQ0.out (by decide) rfl (by intro i hi; rcases i with _ | _ | _ | _ | _ | _ | _ | i <;> first | exact absurd rfl hi | rfl)).fin (by rw [List.length_set]) (by omega) rfl
    · by_cases hm0 : R.ms = []
      · have hl0 : R.ms.length = 0 := by rw [hm0]; rfl
        have hne : R.secs ≠ [] := by intro h; rw [h] at hS; simp at hS
        obtain ⟨g, gc, he, hgg, hfr⟩ := HAT.out.s.2.resolve_left hne
        cases he
        obtain ⟨g', o', id, un, is, ma, ra, ev, ix, he', -, -, hq0, d0, d1, d2, d3, d4, d5, d6⟩ := HAT.out.s.1.sec hS.1
        cases he'
        simp only [Nat.zero_mul, Nat.zero_add, Nat.add_zero] at d1
        have df := (Mine.fro HAT.out.s hne) 1
        have HQ0 := Lib.hid hq0
        have hz0 : ((R.ms.length : Int) == 0) = true := by rw [hl0]; rfl
        have n0' : (q == 0) = false := by simp; omega
        have n1' : (q == 1) = false := by simp; omega
        have n2' : (q == 2) = false := by simp; omega
        clear hq0 d0 d2 d3 d4 d5 d6
        go_wp2
        go_meet
        show EndB sb R w (w4.setCell ⟨g, 0 * 7 + 1, none⟩ (.int .i64 0))
        exact (HAT.out.setS hgg (q := 0) (d := 1) (a' := ⟨id, 0, is, ma, ra, ev, ix⟩) HQ0.out (by decide) rfl (by intro i hi; rcases i with _ | _ | _ | _ | _ | _ | _ | i <;> first | exact absurd rfl hi | rfl)).fin (by rw [List.length_set]) (by omega) rfl
      · obtain ⟨g, gc, he, hgg, hfr⟩ := HAT.out.m.2.resolve_left hm0
        cases he
        have hn0 : 0 < R.ms.length := List.length_pos_iff.2 hm0
        have hz0 : ((R.ms.length : Int) == 0) = false := by simp; omega
        have n0' : (q == 0) = false := by simp; omega
        have n1' : (q == 1) = false := by simp; omega
        have n2' : (q == 2) = false := by simp; omega
        go_upto_region 7 with fail
        go_cut [6] (fun s6 wx => ∃ qn : Nat, qn < R.ms.length ∧ s6 = .pointer (some ⟨g, qn * 7, none⟩) ∧ At4 w.heap.size sb W0.heap.size w1.heap.size W1.heap.size w2.heap.size W2.heap.size w3.heap.size w wx (.slice s0 R.secs.length sc) (.slice h0 R.hs.length hc) (.slice (some ⟨g, 0, none⟩) R.ms.length mc) R.secs R.hs R.ms)
        case first =>
          go_region_with (go_at_call 13; refine (n_any sb (R.ms.length : Int) _ (srcOk_drewN HAT.out.so 1) (by omega)).mono ?_; rintro e w5 ⟨v, hv, rfl, hS5, hG5⟩; obtain ⟨qn, rfl⟩ : ∃ k : Nat, v = k := ⟨v.toNat, by omega⟩; have hqn : qn < R.ms.length := (by omega); have hat := HAT.out.grown (grownBy_undrew hG5) hS5; have bb0 := cell_heap (i := 0) hat.box rfl; have bb1 := cell_heap (i := 1) hat.box rfl; have bb2 := cell_heap (i := 2) hat.box rfl; have HAT5 := Lib.hid hat; clear hat hS5 hG5 hv)
          all_goals (go_wp2_with fail; go_meet)
          all_goals exact ⟨qn, hqn, rfl, HAT5.out⟩
        case rest =>
          obtain ⟨qn, hqn, rfl, hatc⟩ := hcut
          have HATC := Lib.hid hatc
          clear hatc HAT b0 b1 b2 n0' n1' n2'
          go_wp2_with fail
          refine (n_any sb 4 wc HATC.out.so (by decide)).mono ?_
          rintro e w6 ⟨p, hp, rfl, hS6, hG6⟩
          have HAT6 := Lib.hid (HATC.out.grown hG6 hS6)
          clear hS6 hG6 HATC
          rcases (show p = 0 ∨ p = 1 ∨ p = 2 ∨ p = 3 by omega) with rfl | rfl | rfl | rfl
          · go_wp2_with fail
            refine (odd_any sb w6 HAT6.out.so).mono ?_
            rintro e w7 ⟨u, hu, rfl, hS7, hG7⟩
            have hat7 := HAT6.out.grown hG7 hS7
            obtain ⟨g', o', mn, md, mk, ms, mf, mt, ma, he', -, -, hq0, d0, d1, d2, d3, d4, d5, d6⟩ := hat7.m.1.mv hqn
            cases he'
            simp only [Nat.zero_add] at d0 d1 d2 d3 d4 d5 d6
            have df := (Mine.fro hat7.m hm0) (qn * 7 + 6)
            have HQ0 := Lib.hid hq0
            have HAT7 := Lib.hid hat7
            clear hat7 hS7 hG7 hq0 hu
            go_wp2
            go_meet
            exact (HAT7.out.setM hgg (q := qn) (d := 6) (a' := ⟨mn, md, mk, ms, mf, mt, u⟩) HQ0.out (by decide) rfl (by intro i hi; rcases i with _ | _ | _ | _ | _ | _ | _ | i <;> first | exact absurd rfl hi | rfl)).fin rfl (by omega) (by rw [List.length_set])
          · go_wp2_with fail
            refine (odd_any sb w6 HAT6.out.so).mono ?_
            rintro e w7 ⟨u, hu, rfl, hS7, hG7⟩
            have hat7 := HAT6.out.grown hG7 hS7
            obtain ⟨g', o', mn, md, mk, ms, mf, mt, ma, he', -, -, hq0, d0, d1, d2, d3, d4, d5, d6⟩ := hat7.m.1.mv hqn
            cases he'
            simp only [Nat.zero_add] at d0 d1 d2 d3 d4 d5 d6
            have df := (Mine.fro hat7.m hm0) (qn * 7 + 1)
            have HQ0 := Lib.hid hq0
            have HAT7 := Lib.hid hat7
            clear hat7 hS7 hG7 hq0 hu
            go_wp2
            go_meet
            exact (HAT7.out.setM hgg (q := qn) (d := 1) (a' := ⟨mn, u, mk, ms, mf, mt, ma⟩) HQ0.out (by decide) rfl (by intro i hi; rcases i with _ | _ | _ | _ | _ | _ | _ | i <;> first | exact absurd rfl hi | rfl)).fin rfl (by omega) (by rw [List.length_set])
          · go_wp2_with fail
            refine (range_any sb 0 4 w6 HAT6.out.so (by decide) (by decide) (by decide)).mono ?_
            rintro e w7 ⟨u, hu, rfl, hS7, hG7⟩
            have hat7 := HAT6.out.grown hG7 hS7
            obtain ⟨g', o', mn, md, mk, ms, mf, mt, ma, he', -, -, hq0, d0, d1, d2, d3, d4, d5, d6⟩ := hat7.m.1.mv hqn
            cases he'
            simp only [Nat.zero_add] at d0 d1 d2 d3 d4 d5 d6
            have df := (Mine.fro hat7.m hm0) (qn * 7 + 2)
            have HQ0 := Lib.hid hq0
            have HAT7 := Lib.hid hat7
            clear hat7 hS7 hG7 hq0 hu
            go_wp2
            go_meet
            exact (HAT7.out.setM hgg (q := qn) (d := 2) (a' := ⟨mn, md, u, ms, mf, mt, ma⟩) HQ0.out (by decide) rfl (by intro i hi; rcases i with _ | _ | _ | _ | _ | _ | _ | i <;> first | exact absurd rfl hi | rfl)).fin rfl (by omega) (by rw [List.length_set])
          · go_wp2_with fail
            refine (pick_lit sb [0, 1, 1001] _ _ _ w6 HAT6.out.so (by decide) (by decide) rfl rfl rfl).mono ?_
            rintro e w7 ⟨u, hu, rfl, hS7, hG7⟩
            have hat7 := HAT6.out.grown hG7 hS7
            obtain ⟨g', o', mn, md, mk, ms, mf, mt, ma, he', -, -, hq0, d0, d1, d2, d3, d4, d5, d6⟩ := hat7.m.1.mv hqn
            cases he'
            simp only [Nat.zero_add] at d0 d1 d2 d3 d4 d5 d6
            have df := (Mine.fro hat7.m hm0) (qn * 7 + 5)
            have HQ0 := Lib.hid hq0
            have HAT7 := Lib.hid hat7
            clear hat7 hS7 hG7 hq0 hu
            go_wp2
            go_meet
            exact (HAT7.out.setM hgg (q := qn) (d := 5) (a' := ⟨mn, md, mk, ms, mf, u, ma⟩) HQ0.out (by decide) rfl (by intro i hi; rcases i with _ | _ | _ | _ | _ | _ | _ | i <;> first | exact absurd rfl hi | rfl)).fin rfl (by omega) (by rw [List.length_set])
  case rest =>
    obtain ⟨s0', h0', m0', ns, cs, nh, ch, nm, cm, R', hlen, hx, hy, hR, hS, hG⟩ := hcut
    clear HAT b0 b1 b2
    have b0 := cell_heap (i := 0) hx rfl
    have b1 := cell_heap (i := 1) hx rfl
    have b2 := cell_heap (i := 2) hx rfl
    have y0 := cell_heap (i := 0) hy rfl
    have y1 := cell_heap (i := 1) hy rfl
    have y2 := cell_heap (i := 2) hy rfl
    have yf0 := frozen_of_row wc _ 0 _ _ hy
    have yf1 := frozen_of_row wc _ 1 _ _ hy
    have yf2 := frozen_of_row wc _ 2 _ _ hy
    have e0 := heap_setCell_same _ _ 2 _ _ (.slice m0' nm cm) (heap_setCell_same _ _ 1 _ _ (.slice h0' nh ch) (heap_setCell_same wc _ 0 _ _ (.slice s0' ns cs) hy))
    have u0 := cell_heap (i := 0) e0 rfl
    have u1 := cell_heap (i := 1) e0 rfl
    have u2 := cell_heap (i := 2) e0 rfl
    have HX := Lib.hid hx
    have HRR := Lib.hid hR
    have HSS := Lib.hid hS
    have HGG := Lib.hid hG
    have HLEN := Lib.hid hlen
    clear hx hy hR hS hG e0 hlen
    go_wp2
    refine bodyPost_ret (v := .agg #[.slice s0' ns cs, .slice h0' nh ch, .slice m0' nm cm]) (by simp [results, Try.results16, go_sem, u0, u1, u2]) rfl ?_
    exact ⟨_, _, _, R', rfl, HLEN.out, HRR.out.set3 (fun b hb => by omega), srcOk_below HSS.out (below_set3 wc (Nat.le_succ w.heap.size) _ _ _) hlt, grown_set (grown_set (grown_set HGG.out (by omega)) (by omega)) (by omega)⟩
end Go.Proofs.Ytpoidaenkjjdfaa
