/- A vault that is being built in a region that draws its order: what has been made so far. A region that draws its order of evaluation, by an invariant on what has been carried out (XFlow's way, without a fence). Strips: Move. Printed by wip/gen/stn.py. -/
import Derived.Test.YthhoaefadfeknaaGreatZStL
import Derived.Test.YthhoaefadfeknaaGreatZRegP
import Derived.Deep.RegionWith
namespace Go.Proofs.YthhoaefadfeknaaGreat
open Go.RowKit
set_option linter.unusedVariables false
/-- the parts of the register and the row of strips M, in w -/
def VbRow (w3 : World) (M : List Stp) (v : Value) (w : World) : Prop := ∃ ao cp, v = .slice ao M.length cp ∧ w.ownsRow w3.heap.size 88 5 v M.length (flatE encStp M)
def VbReg (w3 : World) (R : Reg) (x0 x1 x2 : Value) (w : World) : Prop := RgOwn w3.heap.size w x0 x1 x2 R
/-- c: the register is copied (tc); k: the strips are cloned (tk); r: the row is made of them (tr); b: the vault is built (tb); a: its box is there (ta); s: it is stored -/
structure VbI (R : Reg) (L M : List Stp) (w3 : World) (c k r b a s : Bool) (tc tk tr tb ta : Value) (w : World) : Prop where
  bel : Below w3.heap.size w3 w
  cpy : c = true → ∃ x0 x1 x2, tc = .agg #[x0, x1, x2] ∧ VbReg w3 R x0 x1 x2 w
  cln : k = true → r = false → VbRow w3 L tk w
  row : r = true → VbRow w3 M tr w
  bld : b = true → ∃ x0 x1 x2 v, tb = .agg #[x0, x1, x2, v] ∧ VbReg w3 R x0 x1 x2 w ∧ VbRow w3 M v w
  box : a = true → s = false → ∃ B, ta = .pointer (some ⟨B, 0, none⟩) ∧ w3.heap.size ≤ B ∧ w.heap[B]? = some (.cells #[.slice none 0 0, .slice none 0 0, .slice none 0 0, .slice none 0 0] 69 (0, 0))
  sto : s = true → ∃ B x0 x1 x2 v, ta = .pointer (some ⟨B, 0, none⟩) ∧ w3.heap.size ≤ B ∧ w.heap[B]? = some (.cells #[x0, x1, x2, v] 69 (0, 0)) ∧ VbReg w3 R x0 x1 x2 w ∧ VbRow w3 M v w
theorem own_frP {T : TypeId} {z n base b : Nat} {v : Value} {xs : List Value} {w w' : World} (h : w.ownsRow base T z v n xs) (hT : T ≠ 88) (hf : FrP b w w') : w'.ownsRow base T z v n xs := by
  refine ⟨h.1, ?_⟩
  rcases h.2 with hn | ⟨g, cap, cur, rfl, hbg, hg, rest⟩
  · exact .inl hn
  · refine .inr ⟨g, cap, cur, rfl, hbg, ?_, rest⟩
    rw [hf.2 g (Array.getElem?_eq_some_iff.1 hg).1 (fun c hc => by rw [hg] at hc; cases hc; exact hT rfl)]
    exact hg
theorem VbReg.frP {w3 w w' : World} {R : Reg} {x0 x1 x2 : Value} {b : Nat} (h : VbReg w3 R x0 x1 x2 w) (hf : FrP b w w') : VbReg w3 R x0 x1 x2 w' :=
  ⟨own_frP h.S (by decide) hf, own_frP h.H (by decide) hf, own_frP h.M (by decide) hf⟩
theorem VbReg.below {w3 w w' : World} {R : Reg} {x0 x1 x2 : Value} (h : VbReg w3 R x0 x1 x2 w) (hb : Below w.heap.size w w') : VbReg w3 R x0 x1 x2 w' :=
  ⟨ownsRow_belowZ h.S hb, ownsRow_belowZ h.H hb, ownsRow_belowZ h.M hb⟩
theorem VbRow.below {w3 w w' : World} {M : List Stp} {v : Value} (h : VbRow w3 M v w) (hb : Below w.heap.size w w') : VbRow w3 M v w' := by
  obtain ⟨ao, cp, e, ho⟩ := h
  exact ⟨ao, cp, e, ownsRow_belowZ ho hb⟩
section
variable {R : Reg} {L M : List Stp} {w3 w w' : World} {c k r b a s : Bool} {tc tk tr tb ta : Value}
theorem VbI.start (w3 : World) (h : Below w3.heap.size w3 w) : VbI R L M w3 false false false false false false tc tk tr tb ta w :=
  ⟨h, by simp, by simp, by simp, by simp, by simp, by simp⟩
theorem VbI.below (h : VbI R L M w3 c k r b a s tc tk tr tb ta w) (hb : Below w.heap.size w w') : VbI R L M w3 c k r b a s tc tk tr tb ta w' := by
  refine ⟨bup h.bel hb, fun h1 => ?_, fun h1 h2 => (h.cln h1 h2).below hb, fun h1 => (h.row h1).below hb, fun h1 => ?_, fun h1 h2 => ?_, fun h1 => ?_⟩
  · obtain ⟨x0, x1, x2, e, hr⟩ := h.cpy h1
    exact ⟨x0, x1, x2, e, hr.below hb⟩
  · obtain ⟨x0, x1, x2, v, e, hr, hv⟩ := h.bld h1
    exact ⟨x0, x1, x2, v, e, hr.below hb, hv.below hb⟩
  · obtain ⟨B, e, hB, hc⟩ := h.box h1 h2
    exact ⟨B, e, hB, (hb.block B (Array.getElem?_eq_some_iff.1 hc).1).trans hc⟩
  · obtain ⟨B, x0, x1, x2, v, e, hB, hc, hr, hv⟩ := h.sto h1
    exact ⟨B, x0, x1, x2, v, e, hB, (hb.block B (Array.getElem?_eq_some_iff.1 hc).1).trans hc, hr.below hb, hv.below hb⟩
theorem VbI.copied {x0 x1 x2 : Value} (h : VbI R L M w3 c k r b a s tc tk tr tb ta w) (hb : Below w.heap.size w w') (ho : RgOwn w.heap.size w' x0 x1 x2 R) : VbI R L M w3 true k r b a s (.agg #[x0, x1, x2]) tk tr tb ta w' := by
  have h' := h.below hb
  have hz := h.bel.size
  exact ⟨h'.bel, fun _ => ⟨x0, x1, x2, rfl, ⟨ownsRow_baseZ ho.S hz, ownsRow_baseZ ho.H hz, ownsRow_baseZ ho.M hz⟩⟩, h'.cln, h'.row, h'.bld, h'.box, h'.sto⟩
theorem VbI.cloned {v : Value} (h : VbI R L M w3 c k r b a s tc tk tr tb ta w) (hb : Below w.heap.size w w') (ho : w'.ownsRow w.heap.size 88 5 v L.length (flatE encStp L)) : VbI R L M w3 c true r b a s tc v tr tb ta w' := by
  have h' := h.below hb
  have hs : ∃ ao cp, v = .slice ao L.length cp := by
    rcases ho.2 with ⟨rfl, h0⟩ | ⟨g, cap, cur, rfl, _⟩
    · rw [h0]; exact ⟨_, _, rfl⟩
    · exact ⟨_, _, rfl⟩
  obtain ⟨ao, cp, rfl⟩ := hs
  exact ⟨h'.bel, h'.cpy, fun _ _ => ⟨ao, cp, rfl, ownsRow_baseZ ho h.bel.size⟩, h'.row, h'.bld, h'.box, h'.sto⟩
theorem VbI.made {v : Value} (h : VbI R L M w3 c k false false a false tc tk tr tb ta w) (hf : FrP w3.heap.size w w') (ho : w'.ownsRow w3.heap.size 88 5 v M.length (flatE encStp M)) : VbI R L M w3 c k true false a false tc tk v tb ta w' := by
  have hs : ∃ ao cp, v = .slice ao M.length cp := by
    rcases ho.2 with ⟨rfl, h0⟩ | ⟨g, cap, cur, rfl, _⟩
    · rw [h0]; exact ⟨_, _, rfl⟩
    · exact ⟨_, _, rfl⟩
  obtain ⟨ao, cp, rfl⟩ := hs
  refine ⟨h.bel.trans hf.1, fun h1 => ?_, by simp, fun _ => ⟨ao, cp, rfl, ho⟩, by simp, fun h1 _ => ?_, by simp⟩
  · obtain ⟨x0, x1, x2, e, hr⟩ := h.cpy h1
    exact ⟨x0, x1, x2, e, hr.frP hf⟩
  · obtain ⟨B, e, hB, hc⟩ := h.box h1 rfl
    exact ⟨B, e, hB, (hf.2 B (Array.getElem?_eq_some_iff.1 hc).1 (fun cur hq => by rw [hc] at hq; cases hq)).trans hc⟩
theorem VbI.built (h : VbI R L M w3 true k true b a s tc tk tr tb ta w) {x0 x1 x2 : Value} (e : tc = .agg #[x0, x1, x2]) : VbI R L M w3 true k true true a s tc tk tr (.agg #[x0, x1, x2, tr]) ta w := by
  obtain ⟨y0, y1, y2, e', hr⟩ := h.cpy rfl
  rw [e] at e'
  cases e'
  exact ⟨h.bel, h.cpy, h.cln, h.row, fun _ => ⟨x0, x1, x2, tr, rfl, hr, h.row rfl⟩, h.box, h.sto⟩
theorem VbI.alloc (h : VbI R L M w3 c k r b a s tc tk tr tb ta w) (hs : s = false) : VbI R L M w3 c k r b true s tc tk tr tb (.pointer (some ⟨w.heap.size, 0, none⟩)) (w.alloc (.cells #[.slice none 0 0, .slice none 0 0, .slice none 0 0, .slice none 0 0] 69 (0, 0))) := by
  have h' := h.below (bal brefl (.cells #[.slice none 0 0, .slice none 0 0, .slice none 0 0, .slice none 0 0] 69 (0, 0)))
  exact ⟨h'.bel, h'.cpy, h'.cln, h'.row, h'.bld, fun _ _ => ⟨w.heap.size, rfl, h.bel.size, heap_alloc_new w _⟩, fun h1 => by rw [hs] at h1; cases h1⟩
theorem VbI.stored {x0 x1 x2 v : Value} {B : Nat} (h : VbI R L M w3 true true true true true false tc tk tr (.agg #[x0, x1, x2, v]) (.pointer (some ⟨B, 0, none⟩)) w) :
    VbI R L M w3 true true true true true true tc tk tr (.agg #[x0, x1, x2, v]) (.pointer (some ⟨B, 0, none⟩)) ((((w.setCell ⟨B, 0, none⟩ x0).setCell ⟨B, 1, none⟩ x1).setCell ⟨B, 2, none⟩ x2).setCell ⟨B, 3, none⟩ v) := by
  obtain ⟨B', e, hB, hc⟩ := h.box rfl rfl
  cases e
  have hg := vgrown4 w B x0 x1 x2 v
  have kr : ∀ {y0 y1 y2 : Value}, VbReg w3 R y0 y1 y2 w → VbReg w3 R y0 y1 y2 ((((w.setCell ⟨B, 0, none⟩ x0).setCell ⟨B, 1, none⟩ x1).setCell ⟨B, 2, none⟩ x2).setCell ⟨B, 3, none⟩ v) := fun hr =>
    ⟨World.ownsRow.kept hr.S hg (.inr (own_ne hr.S hc (by decide))), World.ownsRow.kept hr.H hg (.inr (own_ne hr.H hc (by decide))), World.ownsRow.kept hr.M hg (.inr (own_ne hr.M hc (by decide)))⟩
  have kv : ∀ {N : List Stp} {u : Value}, VbRow w3 N u w → VbRow w3 N u ((((w.setCell ⟨B, 0, none⟩ x0).setCell ⟨B, 1, none⟩ x1).setCell ⟨B, 2, none⟩ x2).setCell ⟨B, 3, none⟩ v) := fun hv => by
    obtain ⟨ao, cp, e, ho⟩ := hv
    exact ⟨ao, cp, e, World.ownsRow.kept ho hg (.inr (own_ne ho hc (by decide)))⟩
  have hbel : Below w3.heap.size w3 ((((w.setCell ⟨B, 0, none⟩ x0).setCell ⟨B, 1, none⟩ x1).setCell ⟨B, 2, none⟩ x2).setCell ⟨B, 3, none⟩ v) := vset4 h.bel hB _ _ _ _
  obtain ⟨y0, y1, y2, u, e, hr, hv⟩ := h.bld rfl
  cases e
  refine ⟨hbel, fun h1 => ?_, by simp, fun h1 => kv (h.row h1), fun _ => ⟨x0, x1, x2, v, rfl, kr hr, kv hv⟩, by simp, fun _ => ⟨B, x0, x1, x2, v, rfl, hB, vheap4 _ _ _ _ hc, kr hr, kv hv⟩⟩
  obtain ⟨z0, z1, z2, e, hq⟩ := h.cpy h1
  exact ⟨z0, z1, z2, e, kr hq⟩
end
end Go.Proofs.YthhoaefadfeknaaGreat
namespace Go.Proofs.YthhoaefadfeknaaGreat
open Go.RowKit
set_option linter.unusedVariables false
def vf_unl (l : Array Bool) : Nat := l.toList.count false
theorem vf_unl_set {l : Array Bool} {i : Nat} (h : l.getD i true = false) : vf_unl (l.setIfInBounds i true) + 1 = vf_unl l := by
  have hi : i < l.size := by
    rcases Nat.lt_or_ge i l.size with hi | hi
    · exact hi
    · rw [Array.getD_eq_getD_getElem?, Array.getElem?_eq_none hi] at h; simp at h
  have he : l[i] = false := by rw [Array.getD_eq_getD_getElem?, Array.getElem?_eq_getElem hi] at h; simpa using h
  have he' : l.toList[i] = false := by simpa using he
  have hm : 0 < l.toList.count false := List.count_pos_iff.2 (by rw [← he']; exact List.getElem_mem _)
  have hc := List.count_set (a := true) (b := false) (l := l.toList) (i := i) (by simpa using hi)
  have e : (l.setIfInBounds i true).toList = l.toList.set i true := by simp
  rw [if_pos (by rw [he']; rfl), if_neg (by decide)] at hc
  unfold vf_unl
  rw [e, hc]
  omega
theorem vf_unl_pos {l : Array Bool} {i : Nat} (h : l.getD i true = false) : 0 < vf_unl l := by have := vf_unl_set h; omega
section
variable {P : Program} {ops : Array Oper} {Q : Exit → Act → World → Prop} {md : Region.Mode}
theorem vf_anyP_inv {J : Array Bool → Act → World → Prop}
    (step : ∀ listed a w, J listed a w → ∀ i, i ∈ Region.ready md ops listed → ∀ K : Act → World → Prop, (∀ a' w', J (listed.setIfInBounds i true) a' w' → K a' w') → wpOp P ops Q i K a w)
    (fin : ∀ listed a w, J listed a w → Region.ready md ops listed = [] → Q .normal a w) :
    ∀ (fuel : Nat) (listed : Array Bool) (a : Act) (w : World), J listed a w → vf_unl listed ≤ fuel → wpAny P md ops Q fuel listed a w
  | 0, listed, a, w, hJ, hf => by
    have hr : Region.ready md ops listed = [] := List.eq_nil_iff_forall_not_mem.2 fun j hj => by
      have := vf_unl_pos (mem_ready.1 hj).1; omega
    exact ⟨hr, fin _ _ _ hJ hr⟩
  | fuel + 1, listed, a, w, hJ, hf =>
    ⟨fun hr => fin _ _ _ hJ hr, fun i hi => step listed a w hJ i hi _ fun a' w' h => vf_anyP_inv step fin fuel _ a' w' h (by have := vf_unl_set (mem_ready.1 hi).1; omega)⟩
theorem vf_wpOpP_of {i : Nat} {o : Oper} {K : Act → World → Prop} {a : Act} {w : World} (ho : ops[i]? = some o) (hw : Region.wanted o (yielded ops a.tmps) = true) (h : o.wp P a w K Q) : wpOp P ops Q i K a w := by
  unfold wpOp; rw [ho]; simp only [hw, if_true]; exact .inl h
def vf_backB (md : Region.Mode) (ops : Array Oper) : Bool := (List.range ops.size).all fun j => match ops[j]? with | some o => o.after.all (fun e => !Region.binds md e || decide (e.on < j)) | none => true
theorem vf_ready_full {listed : Array Bool} (hs : listed.size = ops.size) (hr : Region.ready md ops listed = []) (hb : vf_backB md ops = true) : ∀ j, j < ops.size → listed.getD j false = true := by
  intro j
  induction j using Nat.strongRecOn with
  | ind j ih =>
    intro hj
    cases hl : listed.getD j true with
    | true =>
      have hj' : j < listed.size := by omega
      rw [Array.getD_eq_getD_getElem?, Array.getElem?_eq_getElem hj'] at hl ⊢
      simpa using hl
    | false =>
      exfalso
      have hbj := List.all_eq_true.1 hb j (List.mem_range.2 hj)
      rw [Array.getElem?_eq_getElem hj] at hbj
      have hm : j ∈ Region.ready md ops listed := mem_ready.2 ⟨hl, ops[j], Array.getElem?_eq_getElem hj, fun e he hbi => by
        have := (Array.all_eq_true_iff_forall_mem.1 hbj) e he
        rw [hbi] at this
        have hlt : e.on < j := by simpa using this
        exact ih e.on hlt (by omega)⟩
      rw [hr] at hm
      cases hm
end
theorem vf_listed_ne {l : Array Bool} {i j : Nat} (h : i ≠ j) (hh : (l.setIfInBounds i true).getD j false = true) : l.getD j false = true := by rw [getD_set_ne _ h] at hh; exact hh
theorem vf_listed_keep {l : Array Bool} {i j : Nat} (hh : l.getD j false = true) : (l.setIfInBounds i true).getD j false = true := getD_set_true hh
theorem vf_listed_no {l : Array Bool} {i : Nat} (h : l.getD i true = false) : l.getD i false = false := by
  rw [Array.getD_eq_getD_getElem?] at h ⊢
  cases he : l[i]? with
  | none => rw [he] at h; simp at h
  | some b => rw [he] at h; simpa using h
theorem vf_listed_self {l : Array Bool} {i : Nat} (h : l.getD i true = false) : (l.setIfInBounds i true).getD i false = true := by
  have hi : i < l.size := by
    rcases Nat.lt_or_ge i l.size with hi | hi
    · exact hi
    · rw [Array.getD_eq_getD_getElem?, Array.getElem?_eq_none hi] at h; simp at h
  rw [Array.getD_eq_getD_getElem?, Array.getElem?_setIfInBounds]
  simp [hi]
end Go.Proofs.YthhoaefadfeknaaGreat
namespace Go.Proofs.YthhoaefadfeknaaGreat
open Go.RowKit
set_option linter.unusedVariables false
set_option linter.unusedSimpArgs false
/-- the vault that the region has made -/
def VbPost (R : Reg) (M : List Stp) (w3 : World) (s : Value) (w : World) : Prop :=
  Below w3.heap.size w3 w ∧ ∃ B x0 x1 x2 v, s = .pointer (some ⟨B, 0, none⟩) ∧ w3.heap.size ≤ B ∧ w.heap[B]? = some (.cells #[x0, x1, x2, v] 69 (0, 0)) ∧ VbReg w3 R x0 x1 x2 w ∧ VbRow w3 M v w
theorem VbReg.rg {P : Nat → Prop} {w3 w : World} {R : Reg} {x0 x1 x2 : Value} (h : VbReg w3 R x0 x1 x2 w) (hP : ∀ b, w3.heap.size ≤ b → P b) : RgIn P w x0 x1 x2 R :=
  ⟨Sl.own encSec_len h.S rfl hP, Sl.own encHold_len h.H rfl hP, Sl.own encMv_len h.M rfl hP⟩
theorem vb_end {P : Nat → Prop} {R : Reg} {M : List Stp} {w w3 w6 : World} {B rb : Nat} {z0 z1 z2 u v : Value} (hB : w3.heap.size ≤ B) (hr1 : w.heap.size ≤ rb) (hr2 : rb < w3.heap.size) (hw3 : w.heap.size ≤ w3.heap.size) (hc : w6.heap[B]? = some (.cells #[z0, z1, z2, u] 69 (0, 0))) (hreg : VbReg w3 R z0 z1 z2 w6)
    (ho : w6.ownsRow w3.heap.size 88 5 v M.length (flatE encStp M)) (hb : Below w.heap.size w w6) (hP : ∀ b, w3.heap.size ≤ b → P b) :
    GaveV P R M 0 w (.returned (.tuple #[.agg #[z0, z1, z2, v], .int .i64 0])) (((((w6.setCell ⟨B, 3, none⟩ v).setCell ⟨rb, 0, none⟩ z0).setCell ⟨rb, 1, none⟩ z1).setCell ⟨rb, 2, none⟩ z2).setCell ⟨rb, 3, none⟩ v) := by
  have hg1 := grownBy_setCellZ w6 B 3 v
  have hg2 := vgrown4 (w6.setCell ⟨B, 3, none⟩ v) rb z0 z1 z2 v
  have k1 : ∀ {T : TypeId} {z n : Nat} {y : Value} {xs : List Value}, T ≠ 69 → w6.ownsRow w3.heap.size T z y n xs → (((((w6.setCell ⟨B, 3, none⟩ v).setCell ⟨rb, 0, none⟩ z0).setCell ⟨rb, 1, none⟩ z1).setCell ⟨rb, 2, none⟩ z2).setCell ⟨rb, 3, none⟩ v).ownsRow w3.heap.size T z y n xs := fun hT h => by
    refine World.ownsRow.kept (World.ownsRow.kept h hg1 (.inr (own_ne h hc hT))) hg2 (.inr fun hq => ?_)
    have := (h.lt rb hq).1
    omega
  refine ⟨_, _, _, _, rfl, VbReg.rg (w3 := w3) ⟨k1 (by decide) hreg.S, k1 (by decide) hreg.H, k1 (by decide) hreg.M⟩ hP, Sl.own encStp_len (k1 (by decide) ho) rfl hP, vset4 (bset hb (by simp only; omega) _) hr1 _ _ _ _⟩
set_option maxHeartbeats 16000000 in
set_option maxRecDepth 100000 in
theorem stmove_any (P : Nat → Prop) (vs vh vm vt : Value) (R : Reg) (L : List Stp) (xs xd : Int) (xp : Bool) (xh xa tg : Int) (w : World) (hv : VkIn P w vs vh vm vt R L) (hP : ∀ b, w.heap.size + 3 ≤ b → P b) :
    Calls Tryz.prog 53 #[.agg #[vs, vh, vm, vt], .agg #[.int .i64 xs, .int .i64 xd, .bool xp, .int .i64 xh, .int .i64 xa], .int .i64 tg] w (GaveV P (mwR R L ⟨xs, xd, xp, xh, xa⟩ tg) (mwL R L ⟨xs, xd, xp, xh, xa⟩ tg) (mwE R L ⟨xs, xd, xp, xh, xa⟩ tg) w) := by
  obtain ⟨a0, n0, c0, rfl, -, -, -⟩ := hv.rg.S.shape
  obtain ⟨a1, n1, c1, rfl, -, -, -⟩ := hv.rg.H.shape
  obtain ⟨a2, n2, c2, rfl, -, -, -⟩ := hv.rg.M.shape
  obtain ⟨a3, n3, c3, rfl, -, -, -⟩ := hv.st.shape
  have KC := Lib.hid (fun U (hU : Below w.heap.size w U) => vcheck_any P _ _ _ _ R L U (hv.below hU))
  obtain ⟨E1, hE1⟩ : ∃ E, vkE R L = E := ⟨_, rfl⟩
  rw [hE1] at KC
  obtain ⟨E, hE⟩ : ∃ E, mwE R L ⟨xs, xd, xp, xh, xa⟩ tg = E := ⟨_, rfl⟩
  obtain ⟨RR, hRR⟩ : ∃ E, mwR R L ⟨xs, xd, xp, xh, xa⟩ tg = E := ⟨_, rfl⟩
  obtain ⟨LL, hLL⟩ : ∃ E, mwL R L ⟨xs, xd, xp, xh, xa⟩ tg = E := ⟨_, rfl⟩
  rw [hE, hRR, hLL]
  unfold mwR at hRR
  unfold mwL at hLL
  rw [hE] at hRR hLL
  unfold mwE at hE
  rw [hE1] at hE
  simp only at hE hLL
  have HV := Lib.hid hv
  have HP := Lib.hid hP
  have HE := Lib.hid hE
  have HRR := Lib.hid hRR
  have HLL := Lib.hid hLL
  have HE1 := Lib.hid hE1
  clear hv hP hE hRR hLL hE1
  by_cases h1 : E1 = 0
  case neg =>
    have hE := HE.out
    rw [if_neg h1] at hE
    subst hE
    have hR := HRR.out
    have hL := HLL.out
    rw [if_neg h1] at hR hL
    have HR0 := Lib.hid hR
    have HL0 := Lib.hid hL
    clear hR hL
    have g1 : (E1 != 0) = true := by simpa using h1
    have g2 : (E1 == 0) = false := by simpa using h1
    go_enter Tryz.func53, Tryz.ntmps53
    go_wp2_with fail
    refine (KC.out _ (bal (bal (bal brefl _) _) _)).mono ?_
    rintro e w1 ⟨rfl, hb1⟩
    have r0 : w1.cell? ⟨w.heap.size + 1 + 1, 0, none⟩ = some (.slice none 0 0) := by have q := boxed_cell hb1 0 (v := .slice none 0 0) rfl; simpa using q
    have r1 : w1.cell? ⟨w.heap.size + 1 + 1, 1, none⟩ = some (.slice none 0 0) := by have q := boxed_cell hb1 1 (v := .slice none 0 0) rfl; simpa using q
    have r2 : w1.cell? ⟨w.heap.size + 1 + 1, 2, none⟩ = some (.slice none 0 0) := by have q := boxed_cell hb1 2 (v := .slice none 0 0) rfl; simpa using q
    have r3 : w1.cell? ⟨w.heap.size + 1 + 1, 3, none⟩ = some (.slice none 0 0) := by have q := boxed_cell hb1 3 (v := .slice none 0 0) rfl; simpa using q
    have rf := fun o => frozen_of_row w1 (w.heap.size + 1 + 1) o _ _ (show w1.heap[w.heap.size + 1 + 1]? = some (.cells #[.slice none 0 0, .slice none 0 0, .slice none 0 0, .slice none 0 0] 69 (0, 0)) from (hb1.block _ (by simp)).trans (heap_at (by simp)))
    have HB := Lib.hid (bup (bal (bal (bal brefl _) _) _) hb1)
    have z1 : w.heap.size + 1 + 1 < w1.heap.size := by have := hb1.size; simp at this; omega
    clear hb1
    go_wp2
    refine bodyPost_ret (v := .tuple #[.agg #[.slice none 0 0, .slice none 0 0, .slice none 0 0, .slice none 0 0], .int .i64 E1]) (by simp [results, Tryz.results53, go_sem, *]) rfl (gaveV_nil HR0.out.symm HL0.out.symm rfl ?_)
    exact vset4 HB.out (by omega) _ _ _ _
  subst h1
  have HVK := Lib.hid (vkE_iff.1 HE1.out)
  have hE := HE.out
  rw [if_pos rfl] at hE
  have HEA := Lib.hid hE
  clear hE HE
  cases hf : findS R.secs xs with
  | none =>
    have hE := HEA.out
    rw [hf] at hE
    simp only at hE
    subst hE
    have hR := HRR.out
    have hL := HLL.out
    rw [if_neg (by decide)] at hR hL
    have HR0 := Lib.hid hR
    have HL0 := Lib.hid hL
    clear hR hL
    have KF := Lib.hid (fun U (hU : Below w.heap.size w U) => rfind_no P _ _ _ R xs U (HV.out.rg.below hU) HV.out.lS hf)
    clear hf
    go_enter Tryz.func53, Tryz.ntmps53
    go_wp2_with fail
    refine (KC.out _ (bal (bal (bal brefl _) _) _)).mono ?_
    rintro e w1 ⟨rfl, hb1⟩
    have b0 : w1.cell? ⟨w.heap.size, 0, none⟩ = some (.slice a0 n0 c0) := (hb1.cell (p := ⟨w.heap.size, 0, none⟩) (by simp; omega)).trans ((World.cell?_alloc_past _ _ _ (by simp; omega)).trans ((World.cell?_alloc_past _ _ _ (by simp)).trans (World.cell?_alloc_at _ _ _ _ rfl)))
    have b1 : w1.cell? ⟨w.heap.size, 1, none⟩ = some (.slice a1 n1 c1) := (hb1.cell (p := ⟨w.heap.size, 1, none⟩) (by simp; omega)).trans ((World.cell?_alloc_past _ _ _ (by simp; omega)).trans ((World.cell?_alloc_past _ _ _ (by simp)).trans (World.cell?_alloc_at _ _ _ _ rfl)))
    have b2 : w1.cell? ⟨w.heap.size, 2, none⟩ = some (.slice a2 n2 c2) := (hb1.cell (p := ⟨w.heap.size, 2, none⟩) (by simp; omega)).trans ((World.cell?_alloc_past _ _ _ (by simp; omega)).trans ((World.cell?_alloc_past _ _ _ (by simp)).trans (World.cell?_alloc_at _ _ _ _ rfl)))
    have b3 : w1.cell? ⟨w.heap.size, 3, none⟩ = some (.slice a3 n3 c3) := (hb1.cell (p := ⟨w.heap.size, 3, none⟩) (by simp; omega)).trans ((World.cell?_alloc_past _ _ _ (by simp; omega)).trans ((World.cell?_alloc_past _ _ _ (by simp)).trans (World.cell?_alloc_at _ _ _ _ rfl)))
    have x0 : w1.cell? ⟨w.heap.size + 1, 0, none⟩ = some (.int .i64 xs) := (hb1.cell (p := ⟨w.heap.size + 1, 0, none⟩) (by simp)).trans ((World.cell?_alloc_past _ _ _ (by simp)).trans (World.cell?_alloc_at _ _ _ _ (by simp)))
    have x1 : w1.cell? ⟨w.heap.size + 1, 1, none⟩ = some (.int .i64 xd) := (hb1.cell (p := ⟨w.heap.size + 1, 1, none⟩) (by simp)).trans ((World.cell?_alloc_past _ _ _ (by simp)).trans (World.cell?_alloc_at _ _ _ _ (by simp)))
    have x2 : w1.cell? ⟨w.heap.size + 1, 2, none⟩ = some (.bool xp) := (hb1.cell (p := ⟨w.heap.size + 1, 2, none⟩) (by simp)).trans ((World.cell?_alloc_past _ _ _ (by simp)).trans (World.cell?_alloc_at _ _ _ _ (by simp)))
    have x3 : w1.cell? ⟨w.heap.size + 1, 3, none⟩ = some (.int .i64 xh) := (hb1.cell (p := ⟨w.heap.size + 1, 3, none⟩) (by simp)).trans ((World.cell?_alloc_past _ _ _ (by simp)).trans (World.cell?_alloc_at _ _ _ _ (by simp)))
    have x4 : w1.cell? ⟨w.heap.size + 1, 4, none⟩ = some (.int .i64 xa) := (hb1.cell (p := ⟨w.heap.size + 1, 4, none⟩) (by simp)).trans ((World.cell?_alloc_past _ _ _ (by simp)).trans (World.cell?_alloc_at _ _ _ _ (by simp)))
    have r0 : w1.cell? ⟨w.heap.size + 1 + 1, 0, none⟩ = some (.slice none 0 0) := by have q := boxed_cell hb1 0 (v := .slice none 0 0) rfl; simpa using q
    have r1 : w1.cell? ⟨w.heap.size + 1 + 1, 1, none⟩ = some (.slice none 0 0) := by have q := boxed_cell hb1 1 (v := .slice none 0 0) rfl; simpa using q
    have r2 : w1.cell? ⟨w.heap.size + 1 + 1, 2, none⟩ = some (.slice none 0 0) := by have q := boxed_cell hb1 2 (v := .slice none 0 0) rfl; simpa using q
    have r3 : w1.cell? ⟨w.heap.size + 1 + 1, 3, none⟩ = some (.slice none 0 0) := by have q := boxed_cell hb1 3 (v := .slice none 0 0) rfl; simpa using q
    have rf := fun o => frozen_of_row w1 (w.heap.size + 1 + 1) o _ _ (show w1.heap[w.heap.size + 1 + 1]? = some (.cells #[.slice none 0 0, .slice none 0 0, .slice none 0 0, .slice none 0 0] 69 (0, 0)) from (hb1.block _ (by simp)).trans (heap_at (by simp)))
    have xf := fun o => frozen_of_row w1 (w.heap.size + 1) o _ _ (show w1.heap[w.heap.size + 1]? = some (.cells #[.int .i64 xs, .int .i64 xd, .bool xp, .int .i64 xh, .int .i64 xa] 88 (0, 0)) from (hb1.block _ (by simp)).trans ((heap_alloc_old _ _ (by simp)).trans (heap_at (by simp))))
    have HB := Lib.hid (bup (bal (bal (bal brefl _) _) _) hb1)
    have z1 : w.heap.size + 1 + 1 < w1.heap.size := by have := hb1.size; simp at this; omega
    clear hb1
    go_wp2_with fail
    refine (KF.out _ HB.out).mono ?_
    rintro e w2 ⟨rfl, hb2⟩
    have y0 := keepB hb2 r0
    have y1 := keepB hb2 r1
    have y2 := keepB hb2 r2
    have y3 := keepB hb2 r3
    have rf2 := fun o => (hb2.frozen (p := ⟨w.heap.size + 1 + 1, o, none⟩) (by simp only; omega)).trans (rf o)
    have xf2 := fun o => (hb2.frozen (p := ⟨w.heap.size + 1, o, none⟩) (by simp only; omega)).trans (xf o)
    have HB2 := Lib.hid (bup HB.out hb2)
    have z2 : w.heap.size + 1 + 1 < w2.heap.size := by have := hb2.size; omega
    clear hb2 r0 r1 r2 r3 rf xf xf2 b0 b1 b2 b3 x0 x1 x2 x3 x4
    go_wp2
    refine bodyPost_ret (v := .tuple #[.agg #[.slice none 0 0, .slice none 0 0, .slice none 0 0, .slice none 0 0], .int .i64 79]) (by simp [results, Tryz.results53, go_sem, *]) rfl (gaveV_nil HR0.out.symm HL0.out.symm rfl ?_)
    exact bal (vset4 HB2.out (by omega) _ _ _ _) _
  | some s =>
  obtain ⟨id, un, is, ma, ra, ev, ix⟩ := s
  have hE := HEA.out
  rw [hf] at hE
  simp only at hE
  have HEB := Lib.hid hE
  have hsk : secOk ⟨id, un, is, ma, ra, ev, ix⟩ = true := HVK.out.rg.sec _ (findS_mem hf).1
  obtain ⟨un0, un1⟩ := secOk_un hsk
  simp only at un0 un1
  have hun : (un == 0) = false := by simp; omega
  have hun2 : ¬ un = 0 := by omega
  have KF := Lib.hid (fun U (hU : Below w.heap.size w U) => rfind_yes P _ _ _ R xs id un is ma ra ev ix U (HV.out.rg.below hU) HV.out.lS hf)
  clear hf hE HEA hsk
  go_enter Tryz.func53, Tryz.ntmps53
  go_wp2_with fail
  refine (KC.out _ (bal (bal (bal brefl _) _) _)).mono ?_
  rintro e w1 ⟨rfl, hb1⟩
  have b0 : w1.cell? ⟨w.heap.size, 0, none⟩ = some (.slice a0 n0 c0) := (hb1.cell (p := ⟨w.heap.size, 0, none⟩) (by simp; omega)).trans ((World.cell?_alloc_past _ _ _ (by simp; omega)).trans ((World.cell?_alloc_past _ _ _ (by simp)).trans (World.cell?_alloc_at _ _ _ _ rfl)))
  have b1 : w1.cell? ⟨w.heap.size, 1, none⟩ = some (.slice a1 n1 c1) := (hb1.cell (p := ⟨w.heap.size, 1, none⟩) (by simp; omega)).trans ((World.cell?_alloc_past _ _ _ (by simp; omega)).trans ((World.cell?_alloc_past _ _ _ (by simp)).trans (World.cell?_alloc_at _ _ _ _ rfl)))
  have b2 : w1.cell? ⟨w.heap.size, 2, none⟩ = some (.slice a2 n2 c2) := (hb1.cell (p := ⟨w.heap.size, 2, none⟩) (by simp; omega)).trans ((World.cell?_alloc_past _ _ _ (by simp; omega)).trans ((World.cell?_alloc_past _ _ _ (by simp)).trans (World.cell?_alloc_at _ _ _ _ rfl)))
  have b3 : w1.cell? ⟨w.heap.size, 3, none⟩ = some (.slice a3 n3 c3) := (hb1.cell (p := ⟨w.heap.size, 3, none⟩) (by simp; omega)).trans ((World.cell?_alloc_past _ _ _ (by simp; omega)).trans ((World.cell?_alloc_past _ _ _ (by simp)).trans (World.cell?_alloc_at _ _ _ _ rfl)))
  have x0 : w1.cell? ⟨w.heap.size + 1, 0, none⟩ = some (.int .i64 xs) := (hb1.cell (p := ⟨w.heap.size + 1, 0, none⟩) (by simp)).trans ((World.cell?_alloc_past _ _ _ (by simp)).trans (World.cell?_alloc_at _ _ _ _ (by simp)))
  have x1 : w1.cell? ⟨w.heap.size + 1, 1, none⟩ = some (.int .i64 xd) := (hb1.cell (p := ⟨w.heap.size + 1, 1, none⟩) (by simp)).trans ((World.cell?_alloc_past _ _ _ (by simp)).trans (World.cell?_alloc_at _ _ _ _ (by simp)))
  have x2 : w1.cell? ⟨w.heap.size + 1, 2, none⟩ = some (.bool xp) := (hb1.cell (p := ⟨w.heap.size + 1, 2, none⟩) (by simp)).trans ((World.cell?_alloc_past _ _ _ (by simp)).trans (World.cell?_alloc_at _ _ _ _ (by simp)))
  have x3 : w1.cell? ⟨w.heap.size + 1, 3, none⟩ = some (.int .i64 xh) := (hb1.cell (p := ⟨w.heap.size + 1, 3, none⟩) (by simp)).trans ((World.cell?_alloc_past _ _ _ (by simp)).trans (World.cell?_alloc_at _ _ _ _ (by simp)))
  have x4 : w1.cell? ⟨w.heap.size + 1, 4, none⟩ = some (.int .i64 xa) := (hb1.cell (p := ⟨w.heap.size + 1, 4, none⟩) (by simp)).trans ((World.cell?_alloc_past _ _ _ (by simp)).trans (World.cell?_alloc_at _ _ _ _ (by simp)))
  have r0 : w1.cell? ⟨w.heap.size + 1 + 1, 0, none⟩ = some (.slice none 0 0) := by have q := boxed_cell hb1 0 (v := .slice none 0 0) rfl; simpa using q
  have r1 : w1.cell? ⟨w.heap.size + 1 + 1, 1, none⟩ = some (.slice none 0 0) := by have q := boxed_cell hb1 1 (v := .slice none 0 0) rfl; simpa using q
  have r2 : w1.cell? ⟨w.heap.size + 1 + 1, 2, none⟩ = some (.slice none 0 0) := by have q := boxed_cell hb1 2 (v := .slice none 0 0) rfl; simpa using q
  have r3 : w1.cell? ⟨w.heap.size + 1 + 1, 3, none⟩ = some (.slice none 0 0) := by have q := boxed_cell hb1 3 (v := .slice none 0 0) rfl; simpa using q
  have rf := fun o => frozen_of_row w1 (w.heap.size + 1 + 1) o _ _ (show w1.heap[w.heap.size + 1 + 1]? = some (.cells #[.slice none 0 0, .slice none 0 0, .slice none 0 0, .slice none 0 0] 69 (0, 0)) from (hb1.block _ (by simp)).trans (heap_at (by simp)))
  have xf := fun o => frozen_of_row w1 (w.heap.size + 1) o _ _ (show w1.heap[w.heap.size + 1]? = some (.cells #[.int .i64 xs, .int .i64 xd, .bool xp, .int .i64 xh, .int .i64 xa] 88 (0, 0)) from (hb1.block _ (by simp)).trans ((heap_alloc_old _ _ (by simp)).trans (heap_at (by simp))))
  have HB := Lib.hid (bup (bal (bal (bal brefl _) _) _) hb1)
  have z1 : w.heap.size + 1 + 1 < w1.heap.size := by have := hb1.size; simp at this; omega
  clear hb1
  go_wp2_with fail
  refine (KF.out _ HB.out).mono ?_
  rintro e w2 ⟨rfl, hb2⟩
  have y0 := keepB hb2 r0
  have y1 := keepB hb2 r1
  have y2 := keepB hb2 r2
  have y3 := keepB hb2 r3
  replace b0 := keepB hb2 b0
  replace b1 := keepB hb2 b1
  replace b2 := keepB hb2 b2
  replace b3 := keepB hb2 b3
  replace x0 := keepB hb2 x0
  replace x1 := keepB hb2 x1
  replace x2 := keepB hb2 x2
  replace x3 := keepB hb2 x3
  replace x4 := keepB hb2 x4
  have rf2 := fun o => (hb2.frozen (p := ⟨w.heap.size + 1 + 1, o, none⟩) (by simp only; omega)).trans (rf o)
  have xf2 := fun o => (hb2.frozen (p := ⟨w.heap.size + 1, o, none⟩) (by simp only; omega)).trans (xf o)
  have HB2 := Lib.hid (bup HB.out hb2)
  have z2 : w.heap.size + 1 + 1 < w2.heap.size := by have := hb2.size; omega
  clear hb2 r0 r1 r2 r3 rf xf
  go_upto_region 5 with fail
  obtain ⟨W2, hW2⟩ : ∃ W, W = w2.alloc (.cells #[.int .i64 id, .int .i64 un, .int .i64 is, .int .i64 ma, .int .i64 ra, .int .i64 ev, .bool ix] 26 (0, 0)) := ⟨_, rfl⟩
  try rw [← hW2]
  have HB3 := Lib.hid (show Below w2.heap.size w2 W2 by rw [hW2]; exact bal brefl _)
  have s1 : W2.cell? ⟨w2.heap.size, 1, none⟩ = some (.int .i64 un) := by rw [hW2]; exact World.cell?_alloc_at _ _ _ _ rfl
  have zW : W2.heap.size = w2.heap.size + 1 := by rw [hW2]; simp
  clear hW2
  replace b0 := keepB HB3.out b0
  replace b1 := keepB HB3.out b1
  replace b2 := keepB HB3.out b2
  replace b3 := keepB HB3.out b3
  replace x0 := keepB HB3.out x0
  replace x1 := keepB HB3.out x1
  replace x2 := keepB HB3.out x2
  replace x3 := keepB HB3.out x3
  replace x4 := keepB HB3.out x4
  replace y0 := keepB HB3.out y0
  replace y1 := keepB HB3.out y1
  replace y2 := keepB HB3.out y2
  replace y3 := keepB HB3.out y3
  have rf3 := fun o => (HB3.out.frozen (p := ⟨w.heap.size + 1 + 1, o, none⟩) (by simp only; omega)).trans (rf2 o)
  have xf3 := fun o => (HB3.out.frozen (p := ⟨w.heap.size + 1, o, none⟩) (by simp only; omega)).trans (xf2 o)
  have HB4 := Lib.hid (bup HB2.out HB3.out)
  have zz : w.heap.size + 1 + 1 < W2.heap.size := by omega
  clear rf2 xf2
  by_cases ha : 0 < xa
  case neg =>
    have hE := HEB.out
    rw [if_neg (fun h => ha h.1)] at hE
    subst hE
    have hR := HRR.out
    have hL := HLL.out
    rw [if_neg (by decide)] at hR hL
    have HR0 := Lib.hid hR
    have HL0 := Lib.hid hL
    clear hR hL
    have ha2 : xa ≤ 0 := by omega
    go_wp2
    refine bodyPost_ret (v := .tuple #[.agg #[.slice none 0 0, .slice none 0 0, .slice none 0 0, .slice none 0 0], .int .i64 79]) (by simp [results, Tryz.results53, go_sem, *]) rfl (gaveV_nil HR0.out.symm HL0.out.symm rfl ?_)
    exact vset4 HB4.out (by omega) _ _ _ _
  have ha2 : ¬ xa ≤ 0 := by omega
  have htm : xa.tmod un = xa % un := Int.tmod_eq_emod_of_nonneg (by omega)
  obtain ⟨mo, hmo⟩ : ∃ m, xa % un = m := ⟨_, rfl⟩
  have hm0 : 0 ≤ mo := by rw [← hmo]; exact Int.emod_nonneg _ (by omega)
  have hm1 : mo < un := by rw [← hmo]; exact Int.emod_lt_of_pos _ (by omega)
  rw [hmo] at htm
  have hE := HEB.out
  rw [hmo] at hE
  have HEC := Lib.hid hE
  clear hE HEB
  by_cases hm : mo = 0
  case neg =>
    have hE := HEC.out
    rw [if_neg (fun h => hm h.2)] at hE
    subst hE
    have hR := HRR.out
    have hL := HLL.out
    rw [if_neg (by decide)] at hR hL
    have HR0 := Lib.hid hR
    have HL0 := Lib.hid hL
    clear hR hL
    have g1 : (mo == 0) = false := by simpa using hm
    have g2 : (mo != 0) = true := by simpa using hm
    go_wp2
    refine bodyPost_ret (v := .tuple #[.agg #[.slice none 0 0, .slice none 0 0, .slice none 0 0, .slice none 0 0], .int .i64 79]) (by simp [results, Tryz.results53, go_sem, *]) rfl (gaveV_nil HR0.out.symm HL0.out.symm rfl ?_)
    exact vset4 HB4.out (by omega) _ _ _ _
  have hE := HEC.out
  rw [if_pos ⟨ha, hm⟩] at hE
  have HED := Lib.hid hE
  have gm1 : (mo == 0) = true := by simpa using hm
  have gm2 : (mo != 0) = false := by simpa using hm
  clear hE HEC hm
  obtain ⟨ho, hho⟩ : ∃ b, holdP tg = b := ⟨_, rfl⟩
  have KH := Lib.hid (fun U => stholder_any tg U)
  rw [hho] at KH
  have hE := HED.out
  rw [hho] at hE
  have HEE := Lib.hid hE
  clear hE HED hho
  cases ho with
  | false =>
    have hE := HEE.out
    rw [if_neg (fun h => by cases h.1)] at hE
    subst hE
    have hR := HRR.out
    have hL := HLL.out
    rw [if_neg (by decide)] at hR hL
    have HR0 := Lib.hid hR
    have HL0 := Lib.hid hL
    clear hR hL
    go_wp2_with fail
    refine (KH.out _).mono ?_
    rintro e w' ⟨rfl, rfl⟩
    go_wp2
    refine bodyPost_ret (v := .tuple #[.agg #[.slice none 0 0, .slice none 0 0, .slice none 0 0, .slice none 0 0], .int .i64 6]) (by simp [results, Tryz.results53, go_sem, *]) rfl (gaveV_nil HR0.out.symm HL0.out.symm rfl ?_)
    exact vset4 HB4.out (by omega) _ _ _ _
  | true =>
  by_cases htx : tg = xh
  case pos =>
    have hE := HEE.out
    rw [if_neg (fun h => h.2 htx)] at hE
    subst hE
    have hR := HRR.out
    have hL := HLL.out
    rw [if_neg (by decide)] at hR hL
    have HR0 := Lib.hid hR
    have HL0 := Lib.hid hL
    clear hR hL
    have g1 : (tg == xh) = true := by simpa using htx
    clear htx
    go_wp2_with fail
    refine (KH.out _).mono ?_
    rintro e w' ⟨rfl, rfl⟩
    go_wp2
    refine bodyPost_ret (v := .tuple #[.agg #[.slice none 0 0, .slice none 0 0, .slice none 0 0, .slice none 0 0], .int .i64 6]) (by simp [results, Tryz.results53, go_sem, *]) rfl (gaveV_nil HR0.out.symm HL0.out.symm rfl ?_)
    exact vset4 HB4.out (by omega) _ _ _ _
  have gtx : (tg == xh) = false := by simpa using htx
  have hE := HEE.out
  rw [if_pos ⟨rfl, htx⟩] at hE
  obtain ⟨hd, hhd⟩ : ∃ q, heldP L xs xd xp xh = q := ⟨_, rfl⟩
  have KHD := Lib.hid (fun U (hU : Below w.heap.size w U) => stheld_any P _ L xs xd xp xh xa U (HV.out.st.below hU) HVK.out.srt HV.out.lL)
  rw [hhd] at hE KHD
  have HHD := Lib.hid hhd
  have HEF := Lib.hid hE
  have hhb := heldP_bd (B := 1000000000000) (fun z hz => by have := HVK.out.amt z hz; omega) (by omega) xs xd xp xh
  rw [hhd] at hhb
  clear hE HEE htx hhd
  go_wp2_with fail
  refine (KH.out _).mono ?_
  rintro e w' ⟨rfl, rfl⟩
  have ub3 := up_cell b3
  have ux0 := up_cell x0
  have ux1 := up_cell x1
  have ux2 := up_cell x2
  have ux3 := up_cell x3
  have ux4 := up_cell x4
  go_upto_region 9 with fail
  (refine wp_region_up (by kernel_rfl) (by kernel_rfl) ?_); (repeat (go_big_quiet_step (((go_at_call 121; refine (KHD.out _ (bup HB4.out (up_prop _))).mono ?_; exact fun _ _ hh => ⟨hh.1, ⟨_, bup (up_prop _) hh.2⟩, rfl⟩))))); (refine wpQuiet_nil ?_); (rintro w3 ⟨⟨_, hb3⟩, rfl⟩)
  clear ub3 ux0 ux1 ux2 ux3 ux4 s1
  replace b0 := keepB hb3 b0
  replace b1 := keepB hb3 b1
  replace b2 := keepB hb3 b2
  replace b3 := keepB hb3 b3
  replace x0 := keepB hb3 x0
  replace x1 := keepB hb3 x1
  replace x2 := keepB hb3 x2
  replace x3 := keepB hb3 x3
  replace x4 := keepB hb3 x4
  replace y0 := keepB hb3 y0
  replace y1 := keepB hb3 y1
  replace y2 := keepB hb3 y2
  replace y3 := keepB hb3 y3
  have rf4 := fun o => (hb3.frozen (p := ⟨w.heap.size + 1 + 1, o, none⟩) (by simp only; omega)).trans (rf3 o)
  have xf4 := fun o => (hb3.frozen (p := ⟨w.heap.size + 1, o, none⟩) (by simp only; omega)).trans (xf3 o)
  have z3 : w.heap.size + 1 + 1 < w3.heap.size := by have := hb3.size; omega
  have HB5 := Lib.hid (bup HB4.out hb3)
  clear hb3 rf3 xf3
  by_cases hlt : hd < xa
  case pos =>
    have hE := HEF.out
    rw [if_pos hlt] at hE
    subst hE
    have hR := HRR.out
    have hL := HLL.out
    rw [if_neg (by decide)] at hR hL
    have HR0 := Lib.hid hR
    have HL0 := Lib.hid hL
    clear hR hL
    go_wp2
    refine bodyPost_ret (v := .tuple #[.agg #[.slice none 0 0, .slice none 0 0, .slice none 0 0, .slice none 0 0], .int .i64 77]) (by simp [results, Tryz.results53, go_sem, *]) rfl (gaveV_nil HR0.out.symm HL0.out.symm rfl ?_)
    exact vset4 HB5.out (by omega) _ _ _ _
  have hE := HEF.out
  rw [if_neg hlt] at hE
  have HEG := Lib.hid hE
  clear hE HEF
  obtain ⟨hhb0, hhb1⟩ := hhb
  have hxa1 : xa ≤ 1000000000000 := by omega
  have KCP := Lib.hid (fun U (hU : Below w.heap.size w U) => copy_any P _ _ _ R U (HV.out.rg.below hU) HV.out.lS HV.out.lH HV.out.lM)
  have KCL := Lib.hid (fun U (hU : Below w.heap.size w U) => cloneStp_any P _ L U (HV.out.st.below hU) HV.out.lL)
  have KAD := Lib.hid (fun (ao : Option Addr) (cp : Nat) (U : World) (ho : U.ownsRow w3.heap.size 88 5 (.slice ao L.length cp) L.length (flatE encStp L)) (hU : w3.heap.size ≤ U.heap.size) => stadd_any w3.heap.size (.slice ao L.length cp) L xs xd xp xh xa (-xa) U ho hU HVK.out.srt (by have := HVK.out.ln; omega) (fun z hz => by have := HVK.out.amt z hz; omega) (by omega) (by omega) (by omega))
  obtain ⟨M, hM⟩ : ∃ M, addP L xs xd xp xh (-xa) = M := ⟨_, rfl⟩
  rw [hM] at KAD
  have HM := Lib.hid hM
  clear hM
  have HBW := Lib.hid HB5.out
  go_upto_region 11 with fail
  rw [show decide (hd < xa) = false from decide_eq_false hlt]
  have hwn : IntKind.i64.wrap (-xa) = -xa := IntWalk.i64_in _ (by omega)
  go_cut [11] (fun s11 wx => VbPost R M w3 s11 wx)
  case first =>
    refine wp_region_any (by kernel_rfl) ?_
    change wpAny _ _ _ _ _ _ _ (World.drew _)
    refine vf_anyP_inv (J := fun listed a' w' => ∃ t11 t64 t65 t66 t67 t68 t69 t70 t71 t72 t73 t74 t75 : Value, a' = { tmps := #[Value.agg #[Value.slice a0 n0 c0, Value.slice a1 n1 c1, Value.slice a2 n2 c2, Value.slice a3 n3 c3], Value.agg #[Value.int IntKind.i64 xs, Value.int IntKind.i64 xd, Value.bool xp, Value.int IntKind.i64 xh, Value.int IntKind.i64 xa], Value.int IntKind.i64 tg, Value.pointer (some ⟨w.heap.size, 0, none⟩), Value.pointer (some ⟨w.heap.size + 1, 0, none⟩), undef, Value.pointer (some ⟨w.heap.size + 1 + 1, 0, none⟩), Value.int IntKind.i64 0, Value.int IntKind.i64 0, Value.pointer (some ⟨w2.heap.size, 0, none⟩), Value.bool true, t11, undef, Value.agg #[Value.slice a0 n0 c0, Value.slice a1 n1 c1, Value.slice a2 n2 c2, Value.slice a3 n3 c3], Value.int IntKind.i64 0, Value.int IntKind.i64 0, Value.bool false, undef, undef, Value.tuple #[Value.agg #[Value.int IntKind.i64 id, Value.int IntKind.i64 un, Value.int IntKind.i64 is, Value.int IntKind.i64 ma, Value.int IntKind.i64 ra, Value.int IntKind.i64 ev, Value.bool ix], Value.bool true], Value.pointer (some ⟨w.heap.size, 0, none⟩), Value.agg #[Value.slice a0 n0 c0, Value.slice a1 n1 c1, Value.slice a2 n2 c2], Value.pointer (some ⟨w.heap.size + 1, 0, none⟩), Value.int IntKind.i64 xs, Value.tuple #[Value.agg #[Value.int IntKind.i64 id, Value.int IntKind.i64 un, Value.int IntKind.i64 is, Value.int IntKind.i64 ma, Value.int IntKind.i64 ra, Value.int IntKind.i64 ev, Value.bool ix], Value.bool true], Value.agg #[Value.int IntKind.i64 id, Value.int IntKind.i64 un, Value.int IntKind.i64 is, Value.int IntKind.i64 ma, Value.int IntKind.i64 ra, Value.int IntKind.i64 ev, Value.bool ix], Value.bool true, Value.bool false, Value.bool true, Value.bool false, Value.bool false, Value.pointer (some ⟨w.heap.size + 1, 4, none⟩), Value.int IntKind.i64 xa, Value.bool false, Value.bool false, Value.bool false, Value.pointer (some ⟨w.heap.size + 1, 4, none⟩), Value.int IntKind.i64 xa, Value.pointer (some ⟨w2.heap.size, 1, none⟩), Value.int IntKind.i64 un, Value.int IntKind.i64 mo, Value.bool false, Value.bool false, undef, Value.bool false, Value.int IntKind.i64 tg, Value.bool true, Value.bool false, Value.bool false, Value.int IntKind.i64 tg, Value.pointer (some ⟨w.heap.size + 1, 3, none⟩), Value.int IntKind.i64 xh, Value.bool false, Value.bool false, undef, Value.bool false, Value.pointer (some ⟨w.heap.size, 3, none⟩), Value.slice a3 n3 c3, Value.agg #[Value.int IntKind.i64 xs, Value.int IntKind.i64 xd, Value.bool xp, Value.int IntKind.i64 xh, Value.int IntKind.i64 xa], Value.int IntKind.i64 hd, Value.pointer (some ⟨w.heap.size + 1, 4, none⟩), Value.int IntKind.i64 xa, Value.bool false, undef, t64, t65, t66, t67, t68, t69, t70, t71, t72, t73, t74, t75, undef, undef, undef, undef, undef, undef, undef, undef, undef, undef, undef, undef, undef, undef, undef, undef], defers := [] } ∧ listed.size = 14 ∧ (listed.getD 0 false = true → t64 = .pointer (some ⟨w.heap.size, 0, none⟩)) ∧ (listed.getD 1 false = true → t65 = .agg #[.slice a0 n0 c0, .slice a1 n1 c1, .slice a2 n2 c2]) ∧ (listed.getD 3 false = true → t67 = .pointer (some ⟨w.heap.size, 3, none⟩)) ∧ (listed.getD 4 false = true → t68 = .slice a3 n3 c3) ∧ (listed.getD 6 false = true → t70 = .agg #[.int .i64 xs, .int .i64 xd, .bool xp, .int .i64 xh, .int .i64 xa]) ∧ (listed.getD 7 false = true → t71 = .pointer (some ⟨w.heap.size + 1, 4, none⟩)) ∧ (listed.getD 8 false = true → t72 = .int .i64 xa) ∧ (listed.getD 9 false = true → t73 = .int .i64 (-xa)) ∧ (listed.getD 11 false = true → listed.getD 10 false = true) ∧ (listed.getD 13 false = true → listed.getD 12 false = true ∧ listed.getD 11 false = true ∧ listed.getD 10 false = true) ∧ VbI R L M w3 (listed.getD 2 false) (listed.getD 5 false) (listed.getD 10 false) (listed.getD 11 false) (listed.getD 12 false) (listed.getD 13 false) t66 t69 t74 t75 t11 w') ?step ?fin _ _ _ _ ⟨undef, undef, undef, undef, undef, undef, undef, undef, undef, undef, undef, undef, undef, rfl, rfl, fun h => by simp at h, fun h => by simp at h, fun h => by simp at h, fun h => by simp at h, fun h => by simp at h, fun h => by simp at h, fun h => by simp at h, fun h => by simp at h, fun h => by simp at h, fun h => by simp at h, VbI.start w3 (bdr brefl)⟩ (by decide)
    case step =>
      rintro listed a' w' ⟨t11, t64, t65, t66, t67, t68, t69, t70, t71, t72, t73, t74, t75, rfl, hsz, f0, f1, f3, f4, f6, f7, f8, f9, oB, oS, hvb⟩ i hi K hK
      obtain ⟨hni, o, ho, hdep⟩ := mem_ready.1 hi
      have hin : i < 14 := (Array.getElem?_eq_some_iff.1 ho).1
      have hself := vf_listed_self hni
      have hno := vf_listed_no hni
      rcases (show i = 0 ∨ i = 1 ∨ i = 2 ∨ i = 3 ∨ i = 4 ∨ i = 5 ∨ i = 6 ∨ i = 7 ∨ i = 8 ∨ i = 9 ∨ i = 10 ∨ i = 11 ∨ i = 12 ∨ i = 13 by omega) with rfl | rfl | rfl | rfl | rfl | rfl | rfl | rfl | rfl | rfl | rfl | rfl | rfl | rfl
      · injection ho with ho
        subst ho
        have g2 : (listed.setIfInBounds 0 true).getD 2 false = listed.getD 2 false := getD_set_ne _ (by decide)
        have g5 : (listed.setIfInBounds 0 true).getD 5 false = listed.getD 5 false := getD_set_ne _ (by decide)
        have g10 : (listed.setIfInBounds 0 true).getD 10 false = listed.getD 10 false := getD_set_ne _ (by decide)
        have g11 : (listed.setIfInBounds 0 true).getD 11 false = listed.getD 11 false := getD_set_ne _ (by decide)
        have g12 : (listed.setIfInBounds 0 true).getD 12 false = listed.getD 12 false := getD_set_ne _ (by decide)
        have g13 : (listed.setIfInBounds 0 true).getD 13 false = listed.getD 13 false := getD_set_ne _ (by decide)
        have HVB := Lib.hid hvb
        clear hi hdep hvb
        refine vf_wpOpP_of rfl rfl ?_
        go_simp
        exact hK _ _ ⟨t11, (.pointer (some ⟨w.heap.size, 0, none⟩)), t65, t66, t67, t68, t69, t70, t71, t72, t73, t74, t75, rfl, by simpa using hsz, fun _ => rfl, fun h => f1 (vf_listed_ne (by decide) h), fun h => f3 (vf_listed_ne (by decide) h), fun h => f4 (vf_listed_ne (by decide) h), fun h => f6 (vf_listed_ne (by decide) h), fun h => f7 (vf_listed_ne (by decide) h), fun h => f8 (vf_listed_ne (by decide) h), fun h => f9 (vf_listed_ne (by decide) h), fun h => vf_listed_keep (oB (vf_listed_ne (by decide) h)), fun h => by have k := oS (vf_listed_ne (by decide) h); exact ⟨vf_listed_keep k.1, vf_listed_keep k.2.1, vf_listed_keep k.2.2⟩, by rw [g2, g5, g10, g11, g12, g13]; exact HVB.out⟩
      · injection ho with ho
        subst ho
        have d0 := hdep ⟨0, .data⟩ (by simp) rfl
        have g2 : (listed.setIfInBounds 1 true).getD 2 false = listed.getD 2 false := getD_set_ne _ (by decide)
        have g5 : (listed.setIfInBounds 1 true).getD 5 false = listed.getD 5 false := getD_set_ne _ (by decide)
        have g10 : (listed.setIfInBounds 1 true).getD 10 false = listed.getD 10 false := getD_set_ne _ (by decide)
        have g11 : (listed.setIfInBounds 1 true).getD 11 false = listed.getD 11 false := getD_set_ne _ (by decide)
        have g12 : (listed.setIfInBounds 1 true).getD 12 false = listed.getD 12 false := getD_set_ne _ (by decide)
        have g13 : (listed.setIfInBounds 1 true).getD 13 false = listed.getD 13 false := getD_set_ne _ (by decide)
        obtain rfl := f0 d0
        have lc0 := keepB hvb.bel b0
        have lc1 := keepB hvb.bel b1
        have lc2 := keepB hvb.bel b2
        have HVB := Lib.hid hvb
        clear hi hdep hvb
        refine vf_wpOpP_of rfl rfl ?_
        go_simp
        exact hK _ _ ⟨t11, _, (.agg #[.slice a0 n0 c0, .slice a1 n1 c1, .slice a2 n2 c2]), t66, t67, t68, t69, t70, t71, t72, t73, t74, t75, rfl, by simpa using hsz, fun h => f0 (vf_listed_ne (by decide) h), fun _ => rfl, fun h => f3 (vf_listed_ne (by decide) h), fun h => f4 (vf_listed_ne (by decide) h), fun h => f6 (vf_listed_ne (by decide) h), fun h => f7 (vf_listed_ne (by decide) h), fun h => f8 (vf_listed_ne (by decide) h), fun h => f9 (vf_listed_ne (by decide) h), fun h => vf_listed_keep (oB (vf_listed_ne (by decide) h)), fun h => by have k := oS (vf_listed_ne (by decide) h); exact ⟨vf_listed_keep k.1, vf_listed_keep k.2.1, vf_listed_keep k.2.2⟩, by rw [g2, g5, g10, g11, g12, g13]; exact HVB.out⟩
      · injection ho with ho
        subst ho
        have d1 := hdep ⟨1, .data⟩ (by simp) rfl
        have g2 : (listed.setIfInBounds 2 true).getD 2 false = true := hself
        have g5 : (listed.setIfInBounds 2 true).getD 5 false = listed.getD 5 false := getD_set_ne _ (by decide)
        have g10 : (listed.setIfInBounds 2 true).getD 10 false = listed.getD 10 false := getD_set_ne _ (by decide)
        have g11 : (listed.setIfInBounds 2 true).getD 11 false = listed.getD 11 false := getD_set_ne _ (by decide)
        have g12 : (listed.setIfInBounds 2 true).getD 12 false = listed.getD 12 false := getD_set_ne _ (by decide)
        have g13 : (listed.setIfInBounds 2 true).getD 13 false = listed.getD 13 false := getD_set_ne _ (by decide)
        obtain rfl := f1 d1
        have HVB := Lib.hid hvb
        clear hi hdep hvb
        refine vf_wpOpP_of rfl rfl ?_
        go_simp
        refine (KCP.out w' (bup HBW.out HVB.out.bel)).mono ?_
        rintro e w9 ⟨z0, z1, z2, rfl, ho9, hb9⟩
        obtain ⟨ao0, cp0, rfl⟩ := own_sl ho9.S
        obtain ⟨ao1, cp1, rfl⟩ := own_sl ho9.H
        obtain ⟨ao2, cp2, rfl⟩ := own_sl ho9.M
        exact hK _ _ ⟨t11, t64, _, _, t67, t68, t69, t70, t71, t72, t73, t74, t75, rfl, by simpa using hsz, fun h => f0 (vf_listed_ne (by decide) h), fun h => f1 (vf_listed_ne (by decide) h), fun h => f3 (vf_listed_ne (by decide) h), fun h => f4 (vf_listed_ne (by decide) h), fun h => f6 (vf_listed_ne (by decide) h), fun h => f7 (vf_listed_ne (by decide) h), fun h => f8 (vf_listed_ne (by decide) h), fun h => f9 (vf_listed_ne (by decide) h), fun h => vf_listed_keep (oB (vf_listed_ne (by decide) h)), fun h => by have k := oS (vf_listed_ne (by decide) h); exact ⟨vf_listed_keep k.1, vf_listed_keep k.2.1, vf_listed_keep k.2.2⟩, by rw [g2, g5, g10, g11, g12, g13]; exact HVB.out.copied hb9 ho9⟩
      · injection ho with ho
        subst ho
        have g2 : (listed.setIfInBounds 3 true).getD 2 false = listed.getD 2 false := getD_set_ne _ (by decide)
        have g5 : (listed.setIfInBounds 3 true).getD 5 false = listed.getD 5 false := getD_set_ne _ (by decide)
        have g10 : (listed.setIfInBounds 3 true).getD 10 false = listed.getD 10 false := getD_set_ne _ (by decide)
        have g11 : (listed.setIfInBounds 3 true).getD 11 false = listed.getD 11 false := getD_set_ne _ (by decide)
        have g12 : (listed.setIfInBounds 3 true).getD 12 false = listed.getD 12 false := getD_set_ne _ (by decide)
        have g13 : (listed.setIfInBounds 3 true).getD 13 false = listed.getD 13 false := getD_set_ne _ (by decide)
        have HVB := Lib.hid hvb
        clear hi hdep hvb
        refine vf_wpOpP_of rfl rfl ?_
        go_simp
        exact hK _ _ ⟨t11, t64, t65, t66, (.pointer (some ⟨w.heap.size, 3, none⟩)), t68, t69, t70, t71, t72, t73, t74, t75, rfl, by simpa using hsz, fun h => f0 (vf_listed_ne (by decide) h), fun h => f1 (vf_listed_ne (by decide) h), fun _ => rfl, fun h => f4 (vf_listed_ne (by decide) h), fun h => f6 (vf_listed_ne (by decide) h), fun h => f7 (vf_listed_ne (by decide) h), fun h => f8 (vf_listed_ne (by decide) h), fun h => f9 (vf_listed_ne (by decide) h), fun h => vf_listed_keep (oB (vf_listed_ne (by decide) h)), fun h => by have k := oS (vf_listed_ne (by decide) h); exact ⟨vf_listed_keep k.1, vf_listed_keep k.2.1, vf_listed_keep k.2.2⟩, by rw [g2, g5, g10, g11, g12, g13]; exact HVB.out⟩
      · injection ho with ho
        subst ho
        have d3 := hdep ⟨3, .data⟩ (by simp) rfl
        have g2 : (listed.setIfInBounds 4 true).getD 2 false = listed.getD 2 false := getD_set_ne _ (by decide)
        have g5 : (listed.setIfInBounds 4 true).getD 5 false = listed.getD 5 false := getD_set_ne _ (by decide)
        have g10 : (listed.setIfInBounds 4 true).getD 10 false = listed.getD 10 false := getD_set_ne _ (by decide)
        have g11 : (listed.setIfInBounds 4 true).getD 11 false = listed.getD 11 false := getD_set_ne _ (by decide)
        have g12 : (listed.setIfInBounds 4 true).getD 12 false = listed.getD 12 false := getD_set_ne _ (by decide)
        have g13 : (listed.setIfInBounds 4 true).getD 13 false = listed.getD 13 false := getD_set_ne _ (by decide)
        obtain rfl := f3 d3
        have lc3 := keepB hvb.bel b3
        have HVB := Lib.hid hvb
        clear hi hdep hvb
        refine vf_wpOpP_of rfl rfl ?_
        go_simp
        exact hK _ _ ⟨t11, t64, t65, t66, _, (.slice a3 n3 c3), t69, t70, t71, t72, t73, t74, t75, rfl, by simpa using hsz, fun h => f0 (vf_listed_ne (by decide) h), fun h => f1 (vf_listed_ne (by decide) h), fun h => f3 (vf_listed_ne (by decide) h), fun _ => rfl, fun h => f6 (vf_listed_ne (by decide) h), fun h => f7 (vf_listed_ne (by decide) h), fun h => f8 (vf_listed_ne (by decide) h), fun h => f9 (vf_listed_ne (by decide) h), fun h => vf_listed_keep (oB (vf_listed_ne (by decide) h)), fun h => by have k := oS (vf_listed_ne (by decide) h); exact ⟨vf_listed_keep k.1, vf_listed_keep k.2.1, vf_listed_keep k.2.2⟩, by rw [g2, g5, g10, g11, g12, g13]; exact HVB.out⟩
      · injection ho with ho
        subst ho
        have d4 := hdep ⟨4, .data⟩ (by simp) rfl
        have d2 := hdep ⟨2, .chain⟩ (by simp) rfl
        have g2 : (listed.setIfInBounds 5 true).getD 2 false = listed.getD 2 false := getD_set_ne _ (by decide)
        have g5 : (listed.setIfInBounds 5 true).getD 5 false = true := hself
        have g10 : (listed.setIfInBounds 5 true).getD 10 false = listed.getD 10 false := getD_set_ne _ (by decide)
        have g11 : (listed.setIfInBounds 5 true).getD 11 false = listed.getD 11 false := getD_set_ne _ (by decide)
        have g12 : (listed.setIfInBounds 5 true).getD 12 false = listed.getD 12 false := getD_set_ne _ (by decide)
        have g13 : (listed.setIfInBounds 5 true).getD 13 false = listed.getD 13 false := getD_set_ne _ (by decide)
        obtain rfl := f4 d4
        have HVB := Lib.hid hvb
        clear hi hdep hvb
        refine vf_wpOpP_of rfl rfl ?_
        go_simp
        refine (KCL.out w' (bup HBW.out HVB.out.bel)).mono ?_
        rintro e w9 ⟨v9, rfl, ho9, hb9⟩
        obtain ⟨ao9, cp9, rfl⟩ := own_sl ho9
        exact hK _ _ ⟨t11, t64, t65, t66, t67, _, _, t70, t71, t72, t73, t74, t75, rfl, by simpa using hsz, fun h => f0 (vf_listed_ne (by decide) h), fun h => f1 (vf_listed_ne (by decide) h), fun h => f3 (vf_listed_ne (by decide) h), fun h => f4 (vf_listed_ne (by decide) h), fun h => f6 (vf_listed_ne (by decide) h), fun h => f7 (vf_listed_ne (by decide) h), fun h => f8 (vf_listed_ne (by decide) h), fun h => f9 (vf_listed_ne (by decide) h), fun h => vf_listed_keep (oB (vf_listed_ne (by decide) h)), fun h => by have k := oS (vf_listed_ne (by decide) h); exact ⟨vf_listed_keep k.1, vf_listed_keep k.2.1, vf_listed_keep k.2.2⟩, by rw [g2, g5, g10, g11, g12, g13]; exact HVB.out.cloned hb9 ho9⟩
      · injection ho with ho
        subst ho
        have g2 : (listed.setIfInBounds 6 true).getD 2 false = listed.getD 2 false := getD_set_ne _ (by decide)
        have g5 : (listed.setIfInBounds 6 true).getD 5 false = listed.getD 5 false := getD_set_ne _ (by decide)
        have g10 : (listed.setIfInBounds 6 true).getD 10 false = listed.getD 10 false := getD_set_ne _ (by decide)
        have g11 : (listed.setIfInBounds 6 true).getD 11 false = listed.getD 11 false := getD_set_ne _ (by decide)
        have g12 : (listed.setIfInBounds 6 true).getD 12 false = listed.getD 12 false := getD_set_ne _ (by decide)
        have g13 : (listed.setIfInBounds 6 true).getD 13 false = listed.getD 13 false := getD_set_ne _ (by decide)
        have lc0 := keepB hvb.bel x0
        have lc1 := keepB hvb.bel x1
        have lc2 := keepB hvb.bel x2
        have lc3 := keepB hvb.bel x3
        have lc4 := keepB hvb.bel x4
        have HVB := Lib.hid hvb
        clear hi hdep hvb
        refine vf_wpOpP_of rfl rfl ?_
        go_simp
        exact hK _ _ ⟨t11, t64, t65, t66, t67, t68, t69, (.agg #[.int .i64 xs, .int .i64 xd, .bool xp, .int .i64 xh, .int .i64 xa]), t71, t72, t73, t74, t75, rfl, by simpa using hsz, fun h => f0 (vf_listed_ne (by decide) h), fun h => f1 (vf_listed_ne (by decide) h), fun h => f3 (vf_listed_ne (by decide) h), fun h => f4 (vf_listed_ne (by decide) h), fun _ => rfl, fun h => f7 (vf_listed_ne (by decide) h), fun h => f8 (vf_listed_ne (by decide) h), fun h => f9 (vf_listed_ne (by decide) h), fun h => vf_listed_keep (oB (vf_listed_ne (by decide) h)), fun h => by have k := oS (vf_listed_ne (by decide) h); exact ⟨vf_listed_keep k.1, vf_listed_keep k.2.1, vf_listed_keep k.2.2⟩, by rw [g2, g5, g10, g11, g12, g13]; exact HVB.out⟩
      · injection ho with ho
        subst ho
        have g2 : (listed.setIfInBounds 7 true).getD 2 false = listed.getD 2 false := getD_set_ne _ (by decide)
        have g5 : (listed.setIfInBounds 7 true).getD 5 false = listed.getD 5 false := getD_set_ne _ (by decide)
        have g10 : (listed.setIfInBounds 7 true).getD 10 false = listed.getD 10 false := getD_set_ne _ (by decide)
        have g11 : (listed.setIfInBounds 7 true).getD 11 false = listed.getD 11 false := getD_set_ne _ (by decide)
        have g12 : (listed.setIfInBounds 7 true).getD 12 false = listed.getD 12 false := getD_set_ne _ (by decide)
        have g13 : (listed.setIfInBounds 7 true).getD 13 false = listed.getD 13 false := getD_set_ne _ (by decide)
        have HVB := Lib.hid hvb
        clear hi hdep hvb
        refine vf_wpOpP_of rfl rfl ?_
        go_simp
        exact hK _ _ ⟨t11, t64, t65, t66, t67, t68, t69, t70, (.pointer (some ⟨w.heap.size + 1, 4, none⟩)), t72, t73, t74, t75, rfl, by simpa using hsz, fun h => f0 (vf_listed_ne (by decide) h), fun h => f1 (vf_listed_ne (by decide) h), fun h => f3 (vf_listed_ne (by decide) h), fun h => f4 (vf_listed_ne (by decide) h), fun h => f6 (vf_listed_ne (by decide) h), fun _ => rfl, fun h => f8 (vf_listed_ne (by decide) h), fun h => f9 (vf_listed_ne (by decide) h), fun h => vf_listed_keep (oB (vf_listed_ne (by decide) h)), fun h => by have k := oS (vf_listed_ne (by decide) h); exact ⟨vf_listed_keep k.1, vf_listed_keep k.2.1, vf_listed_keep k.2.2⟩, by rw [g2, g5, g10, g11, g12, g13]; exact HVB.out⟩
      · injection ho with ho
        subst ho
        have d7 := hdep ⟨7, .data⟩ (by simp) rfl
        have g2 : (listed.setIfInBounds 8 true).getD 2 false = listed.getD 2 false := getD_set_ne _ (by decide)
        have g5 : (listed.setIfInBounds 8 true).getD 5 false = listed.getD 5 false := getD_set_ne _ (by decide)
        have g10 : (listed.setIfInBounds 8 true).getD 10 false = listed.getD 10 false := getD_set_ne _ (by decide)
        have g11 : (listed.setIfInBounds 8 true).getD 11 false = listed.getD 11 false := getD_set_ne _ (by decide)
        have g12 : (listed.setIfInBounds 8 true).getD 12 false = listed.getD 12 false := getD_set_ne _ (by decide)
        have g13 : (listed.setIfInBounds 8 true).getD 13 false = listed.getD 13 false := getD_set_ne _ (by decide)
        obtain rfl := f7 d7
        have lc4 := keepB hvb.bel x4
        have HVB := Lib.hid hvb
        clear hi hdep hvb
        refine vf_wpOpP_of rfl rfl ?_
        go_simp
        exact hK _ _ ⟨t11, t64, t65, t66, t67, t68, t69, t70, _, (.int .i64 xa), t73, t74, t75, rfl, by simpa using hsz, fun h => f0 (vf_listed_ne (by decide) h), fun h => f1 (vf_listed_ne (by decide) h), fun h => f3 (vf_listed_ne (by decide) h), fun h => f4 (vf_listed_ne (by decide) h), fun h => f6 (vf_listed_ne (by decide) h), fun h => f7 (vf_listed_ne (by decide) h), fun _ => rfl, fun h => f9 (vf_listed_ne (by decide) h), fun h => vf_listed_keep (oB (vf_listed_ne (by decide) h)), fun h => by have k := oS (vf_listed_ne (by decide) h); exact ⟨vf_listed_keep k.1, vf_listed_keep k.2.1, vf_listed_keep k.2.2⟩, by rw [g2, g5, g10, g11, g12, g13]; exact HVB.out⟩
      · injection ho with ho
        subst ho
        have d8 := hdep ⟨8, .data⟩ (by simp) rfl
        have g2 : (listed.setIfInBounds 9 true).getD 2 false = listed.getD 2 false := getD_set_ne _ (by decide)
        have g5 : (listed.setIfInBounds 9 true).getD 5 false = listed.getD 5 false := getD_set_ne _ (by decide)
        have g10 : (listed.setIfInBounds 9 true).getD 10 false = listed.getD 10 false := getD_set_ne _ (by decide)
        have g11 : (listed.setIfInBounds 9 true).getD 11 false = listed.getD 11 false := getD_set_ne _ (by decide)
        have g12 : (listed.setIfInBounds 9 true).getD 12 false = listed.getD 12 false := getD_set_ne _ (by decide)
        have g13 : (listed.setIfInBounds 9 true).getD 13 false = listed.getD 13 false := getD_set_ne _ (by decide)
        obtain rfl := f8 d8
        have HVB := Lib.hid hvb
        clear hi hdep hvb
        refine vf_wpOpP_of rfl rfl ?_
        go_simp
        exact hK _ _ ⟨t11, t64, t65, t66, t67, t68, t69, t70, t71, _, (.int .i64 (-xa)), t74, t75, rfl, by simpa using hsz, fun h => f0 (vf_listed_ne (by decide) h), fun h => f1 (vf_listed_ne (by decide) h), fun h => f3 (vf_listed_ne (by decide) h), fun h => f4 (vf_listed_ne (by decide) h), fun h => f6 (vf_listed_ne (by decide) h), fun h => f7 (vf_listed_ne (by decide) h), fun h => f8 (vf_listed_ne (by decide) h), fun _ => rfl, fun h => vf_listed_keep (oB (vf_listed_ne (by decide) h)), fun h => by have k := oS (vf_listed_ne (by decide) h); exact ⟨vf_listed_keep k.1, vf_listed_keep k.2.1, vf_listed_keep k.2.2⟩, by rw [g2, g5, g10, g11, g12, g13]; exact HVB.out⟩
      · injection ho with ho
        subst ho
        have d5 := hdep ⟨5, .data⟩ (by simp) rfl
        have d6 := hdep ⟨6, .data⟩ (by simp) rfl
        have d9 := hdep ⟨9, .data⟩ (by simp) rfl
        have g2 : (listed.setIfInBounds 10 true).getD 2 false = listed.getD 2 false := getD_set_ne _ (by decide)
        have g5 : (listed.setIfInBounds 10 true).getD 5 false = listed.getD 5 false := getD_set_ne _ (by decide)
        have g10 : (listed.setIfInBounds 10 true).getD 10 false = true := hself
        have g11 : (listed.setIfInBounds 10 true).getD 11 false = listed.getD 11 false := getD_set_ne _ (by decide)
        have g12 : (listed.setIfInBounds 10 true).getD 12 false = listed.getD 12 false := getD_set_ne _ (by decide)
        have g13 : (listed.setIfInBounds 10 true).getD 13 false = listed.getD 13 false := getD_set_ne _ (by decide)
        obtain rfl := f6 d6
        obtain rfl := f9 d9
        have hB : listed.getD 11 false = false := by
          cases h : listed.getD 11 false with
          | false => rfl
          | true => have := oB h; rw [hno] at this; cases this
        have hS : listed.getD 13 false = false := by
          cases h : listed.getD 13 false with
          | false => rfl
          | true => have := (oS h).2.2; rw [hno] at this; cases this
        obtain ⟨ao, cp, rfl, hrow⟩ := hvb.cln d5 hno
        rw [hno, hB, hS] at hvb
        have HVB := Lib.hid hvb
        clear hi hdep hvb
        refine vf_wpOpP_of rfl rfl ?_
        go_simp
        refine (KAD.out ao cp w' hrow HVB.out.bel.size).mono ?_
        rintro e w9 ⟨v9, rfl, ho9, hf9⟩
        obtain ⟨ao9, cp9, rfl⟩ := own_sl ho9
        exact hK _ _ ⟨t11, t64, t65, t66, t67, t68, _, _, t71, t72, _, _, t75, rfl, by simpa using hsz, fun h => f0 (vf_listed_ne (by decide) h), fun h => f1 (vf_listed_ne (by decide) h), fun h => f3 (vf_listed_ne (by decide) h), fun h => f4 (vf_listed_ne (by decide) h), fun h => f6 (vf_listed_ne (by decide) h), fun h => f7 (vf_listed_ne (by decide) h), fun h => f8 (vf_listed_ne (by decide) h), fun h => f9 (vf_listed_ne (by decide) h), fun h => vf_listed_keep (oB (vf_listed_ne (by decide) h)), fun h => by have k := oS (vf_listed_ne (by decide) h); exact ⟨vf_listed_keep k.1, vf_listed_keep k.2.1, vf_listed_keep k.2.2⟩, by rw [g2, g5, g10, g11, g12, g13, hB, hS]; exact HVB.out.made hf9 ho9⟩
      · injection ho with ho
        subst ho
        have d2 := hdep ⟨2, .data⟩ (by simp) rfl
        have d10 := hdep ⟨10, .data⟩ (by simp) rfl
        have g2 : (listed.setIfInBounds 11 true).getD 2 false = listed.getD 2 false := getD_set_ne _ (by decide)
        have g5 : (listed.setIfInBounds 11 true).getD 5 false = listed.getD 5 false := getD_set_ne _ (by decide)
        have g10 : (listed.setIfInBounds 11 true).getD 10 false = listed.getD 10 false := getD_set_ne _ (by decide)
        have g11 : (listed.setIfInBounds 11 true).getD 11 false = true := hself
        have g12 : (listed.setIfInBounds 11 true).getD 12 false = listed.getD 12 false := getD_set_ne _ (by decide)
        have g13 : (listed.setIfInBounds 11 true).getD 13 false = listed.getD 13 false := getD_set_ne _ (by decide)
        rw [d2, d10] at hvb
        obtain ⟨z0, z1, z2, rfl, hreg⟩ := hvb.cpy rfl
        obtain ⟨ao0, cp0, rfl⟩ := own_sl hreg.S
        obtain ⟨ao1, cp1, rfl⟩ := own_sl hreg.H
        obtain ⟨ao2, cp2, rfl⟩ := own_sl hreg.M
        obtain ⟨ao, cp, rfl, hrow⟩ := hvb.row rfl
        have HVB := Lib.hid hvb
        clear hi hdep hvb
        refine vf_wpOpP_of rfl rfl ?_
        go_simp
        exact hK _ _ ⟨t11, t64, t65, _, t67, t68, t69, t70, t71, t72, t73, _, _, rfl, by simpa using hsz, fun h => f0 (vf_listed_ne (by decide) h), fun h => f1 (vf_listed_ne (by decide) h), fun h => f3 (vf_listed_ne (by decide) h), fun h => f4 (vf_listed_ne (by decide) h), fun h => f6 (vf_listed_ne (by decide) h), fun h => f7 (vf_listed_ne (by decide) h), fun h => f8 (vf_listed_ne (by decide) h), fun h => f9 (vf_listed_ne (by decide) h), fun _ => vf_listed_keep d10, fun h => by have k := oS (vf_listed_ne (by decide) h); exact ⟨vf_listed_keep k.1, vf_listed_keep k.2.1, vf_listed_keep k.2.2⟩, by rw [g2, g5, g10, g11, g12, g13, d2, d10]; exact HVB.out.built rfl⟩
      · injection ho with ho
        subst ho
        have g2 : (listed.setIfInBounds 12 true).getD 2 false = listed.getD 2 false := getD_set_ne _ (by decide)
        have g5 : (listed.setIfInBounds 12 true).getD 5 false = listed.getD 5 false := getD_set_ne _ (by decide)
        have g10 : (listed.setIfInBounds 12 true).getD 10 false = listed.getD 10 false := getD_set_ne _ (by decide)
        have g11 : (listed.setIfInBounds 12 true).getD 11 false = listed.getD 11 false := getD_set_ne _ (by decide)
        have g12 : (listed.setIfInBounds 12 true).getD 12 false = true := hself
        have g13 : (listed.setIfInBounds 12 true).getD 13 false = listed.getD 13 false := getD_set_ne _ (by decide)
        have hS : listed.getD 13 false = false := by
          cases h : listed.getD 13 false with
          | false => rfl
          | true => have := (oS h).1; rw [hno] at this; cases this
        have HVB := Lib.hid hvb
        clear hi hdep hvb
        refine vf_wpOpP_of rfl rfl ?_
        go_simp
        exact hK _ _ ⟨_, t64, t65, t66, t67, t68, t69, t70, t71, t72, t73, t74, t75, rfl, by simpa using hsz, fun h => f0 (vf_listed_ne (by decide) h), fun h => f1 (vf_listed_ne (by decide) h), fun h => f3 (vf_listed_ne (by decide) h), fun h => f4 (vf_listed_ne (by decide) h), fun h => f6 (vf_listed_ne (by decide) h), fun h => f7 (vf_listed_ne (by decide) h), fun h => f8 (vf_listed_ne (by decide) h), fun h => f9 (vf_listed_ne (by decide) h), fun h => vf_listed_keep (oB (vf_listed_ne (by decide) h)), fun h => by have k := oS (vf_listed_ne (by decide) h); exact ⟨vf_listed_keep k.1, vf_listed_keep k.2.1, vf_listed_keep k.2.2⟩, by rw [g2, g5, g10, g11, g12, g13]; exact HVB.out.alloc hS⟩
      · injection ho with ho
        subst ho
        have d12 := hdep ⟨12, .data⟩ (by simp) rfl
        have d11 := hdep ⟨11, .data⟩ (by simp) rfl
        have d10 := hdep ⟨10, .chain⟩ (by simp) rfl
        have d2 := hdep ⟨2, .phase⟩ (by simp) rfl
        have d5 := hdep ⟨5, .phase⟩ (by simp) rfl
        have g2 : (listed.setIfInBounds 13 true).getD 2 false = listed.getD 2 false := getD_set_ne _ (by decide)
        have g5 : (listed.setIfInBounds 13 true).getD 5 false = listed.getD 5 false := getD_set_ne _ (by decide)
        have g10 : (listed.setIfInBounds 13 true).getD 10 false = listed.getD 10 false := getD_set_ne _ (by decide)
        have g11 : (listed.setIfInBounds 13 true).getD 11 false = listed.getD 11 false := getD_set_ne _ (by decide)
        have g12 : (listed.setIfInBounds 13 true).getD 12 false = listed.getD 12 false := getD_set_ne _ (by decide)
        have g13 : (listed.setIfInBounds 13 true).getD 13 false = true := hself
        rw [d2, d5, d10, d11, d12, hno] at hvb
        obtain ⟨B, rfl, hB, hc⟩ := hvb.box rfl rfl
        obtain ⟨z0, z1, z2, v, rfl, hreg, hrow⟩ := hvb.bld rfl
        obtain ⟨ao0, cp0, rfl⟩ := own_sl hreg.S
        obtain ⟨ao1, cp1, rfl⟩ := own_sl hreg.H
        obtain ⟨ao2, cp2, rfl⟩ := own_sl hreg.M
        obtain ⟨ao, cp, rfl, hrow2⟩ := hrow
        have k0 : w'.cell? ⟨B, 0, none⟩ = some (.slice none 0 0) := cell_heap hc rfl
        have k1 : w'.cell? ⟨B, 1, none⟩ = some (.slice none 0 0) := cell_heap hc rfl
        have k2 : w'.cell? ⟨B, 2, none⟩ = some (.slice none 0 0) := cell_heap hc rfl
        have k3 : w'.cell? ⟨B, 3, none⟩ = some (.slice none 0 0) := cell_heap hc rfl
        have kf : ∀ o, w'.frozen? ⟨B, o, none⟩ = false := fun o => frozen_of_row w' B o _ _ hc
        have HVB := Lib.hid hvb
        clear hi hdep hvb
        refine vf_wpOpP_of rfl rfl ?_
        go_simp
        exact hK _ _ ⟨_, t64, t65, t66, t67, t68, t69, t70, t71, t72, t73, t74, _, rfl, by simpa using hsz, fun h => f0 (vf_listed_ne (by decide) h), fun h => f1 (vf_listed_ne (by decide) h), fun h => f3 (vf_listed_ne (by decide) h), fun h => f4 (vf_listed_ne (by decide) h), fun h => f6 (vf_listed_ne (by decide) h), fun h => f7 (vf_listed_ne (by decide) h), fun h => f8 (vf_listed_ne (by decide) h), fun h => f9 (vf_listed_ne (by decide) h), fun h => vf_listed_keep (oB (vf_listed_ne (by decide) h)), fun _ => ⟨vf_listed_keep d12, vf_listed_keep d11, vf_listed_keep d10⟩, by rw [g2, g5, g10, g11, g12, g13, d2, d5, d10, d11, d12]; exact HVB.out.stored⟩
    case fin =>
      rintro listed a' w' ⟨t11, t64, t65, t66, t67, t68, t69, t70, t71, t72, t73, t74, t75, rfl, hsz, f0, f1, f3, f4, f6, f7, f8, f9, oB, oS, hvb⟩ hr
      have hfull := vf_ready_full hsz hr (by kernel_rfl)
      rw [hfull 2 (by decide), hfull 5 (by decide), hfull 10 (by decide), hfull 11 (by decide), hfull 12 (by decide), hfull 13 (by decide)] at hvb
      have HF := Lib.hid (show VbPost R M w3 t11 w' from ⟨hvb.bel, hvb.sto rfl⟩)
      clear hvb
      go_wp2
      go_meet
      exact HF.out
  case rest =>
    obtain ⟨hbw, B, z0', z1', z2', v, rfl, hB, hc, hreg, ao, cp, rfl, hrow⟩ := hcut
    obtain ⟨o0, q0, rfl⟩ := own_sl hreg.S
    obtain ⟨o1, q1, rfl⟩ := own_sl hreg.H
    obtain ⟨o2, q2, rfl⟩ := own_sl hreg.M
    replace x0 := keepB hbw x0
    replace x1 := keepB hbw x1
    replace x2 := keepB hbw x2
    replace x3 := keepB hbw x3
    replace x4 := keepB hbw x4
    replace y0 := keepB hbw y0
    replace y1 := keepB hbw y1
    replace y2 := keepB hbw y2
    replace y3 := keepB hbw y3
    have rf5 := fun o => (hbw.frozen (p := ⟨w.heap.size + 1 + 1, o, none⟩) (by simp only; omega)).trans (rf4 o)
    have xf5 := fun o => (hbw.frozen (p := ⟨w.heap.size + 1, o, none⟩) (by simp only; omega)).trans (xf4 o)
    have hBl : B < wc.heap.size := (Array.getElem?_eq_some_iff.1 hc).1
    have hne1 : ¬ (w.heap.size + 1 = B) := by omega
    have hne2 : ¬ (B = w.heap.size + 1) := by omega
    have hne3 : ¬ (w.heap.size + 1 + 1 = B) := by omega
    have hne4 : ¬ (B = w.heap.size + 1 + 1) := by omega
    have k3 : wc.cell? ⟨B, 3, none⟩ = some (.slice ao M.length cp) := cell_heap hc rfl
    have hsrt : srtP M := by rw [← HM.out]; exact addP_srt _ HVK.out.srt
    have hml : M.length ≤ 401 := by rw [← HM.out]; have := addP_len L xs xd xp xh (-xa); have := HVK.out.ln; omega
    have hamt : ∀ z ∈ M, -2000000000000 ≤ z.a ∧ z.a ≤ 2000000000000 := fun z hz => by
      rw [← HM.out] at hz
      rcases addP_amt HVK.out.srt hz with h | h
      · have := HVK.out.amt z h; omega
      · rw [HHD.out] at h; omega
    have hgx := grownBy_setCellZ wc (w.heap.size + 1) 3 (.int .i64 tg)
    have hzx := hgx.size
    have kx : ∀ {T : TypeId} {z n : Nat} {y : Value} {l : List Value}, wc.ownsRow w3.heap.size T z y n l → (wc.setCell ⟨w.heap.size + 1, 3, none⟩ (.int .i64 tg)).ownsRow w3.heap.size T z y n l := fun h =>
      World.ownsRow.kept h hgx (.inr fun hq => by have := (h.lt _ hq).1; omega)
    have hreg5 : VbReg w3 R (.slice o0 R.secs.length q0) (.slice o1 R.hs.length q1) (.slice o2 R.ms.length q2) (wc.setCell ⟨w.heap.size + 1, 3, none⟩ (.int .i64 tg)) := ⟨kx hreg.S, kx hreg.H, kx hreg.M⟩
    have hzs : wc.heap.size ≤ (wc.setCell ⟨w.heap.size + 1, 3, none⟩ (.int .i64 tg)).heap.size := hzx
    have KA2 := Lib.hid (stadd_any w3.heap.size (.slice ao M.length cp) M xs xd xp tg xa xa (wc.setCell ⟨w.heap.size + 1, 3, none⟩ (.int .i64 tg)) (kx hrow) (by have := hbw.size; omega) hsrt (by omega) hamt (by omega) hxa1 (by omega))
    obtain ⟨M2, hM2⟩ : ∃ M2, addP M xs xd xp tg xa = M2 := ⟨_, rfl⟩
    rw [hM2] at KA2
    have hc5 := (hgx.block B hBl (by simp; omega)).trans hc
    have HBX := Lib.hid (bset (bup HBW.out hbw) (p := ⟨w.heap.size + 1, 3, none⟩) (by simp only; omega) (.int .i64 tg))
    have HREG := Lib.hid hreg5
    have HC5 := Lib.hid hc5
    have RZ := Lib.hid (And.intro y0 (And.intro y1 (And.intro y2 y3)))
    have RF := Lib.hid rf5
    have HM2 := Lib.hid hM2
    have hbw3 : w3.heap.size ≤ wc.heap.size := hbw.size
    clear hsrt hamt hgx kx hreg hrow hreg5 hbw hc hc5 hM2 y0 y1 y2 y3 rf4 rf5 xf4 b0 b1 b2 b3
    go_wp2_with fail
    refine KA2.out.mono ?_
    rintro e w6 ⟨v6, rfl, ho6, hf6⟩
    obtain ⟨ao6, cp6, rfl⟩ := own_sl ho6
    have hc6 := (hf6.2 B (by omega) (fun cur hq => by rw [HC5.out] at hq; cases hq)).trans HC5.out
    have hreg6 := HREG.out.frP hf6
    have hb6 : Below w.heap.size w w6 := HBX.out.trans (hf6.1.mono (by omega))
    obtain ⟨y0, y1, y2, y3⟩ := RZ.out
    have e0 : w6.cell? ⟨w.heap.size + 1 + 1, 0, none⟩ = some (.slice none 0 0) := (hf6.1.cell (by simp only; omega)).trans ((World.cell?_setCell_other _ _ _ _ (by simp)).trans y0)
    have e1 : w6.cell? ⟨w.heap.size + 1 + 1, 1, none⟩ = some (.slice none 0 0) := (hf6.1.cell (by simp only; omega)).trans ((World.cell?_setCell_other _ _ _ _ (by simp)).trans y1)
    have e2 : w6.cell? ⟨w.heap.size + 1 + 1, 2, none⟩ = some (.slice none 0 0) := (hf6.1.cell (by simp only; omega)).trans ((World.cell?_setCell_other _ _ _ _ (by simp)).trans y2)
    have e3 : w6.cell? ⟨w.heap.size + 1 + 1, 3, none⟩ = some (.slice none 0 0) := (hf6.1.cell (by simp only; omega)).trans ((World.cell?_setCell_other _ _ _ _ (by simp)).trans y3)
    have ef : ∀ o, w6.frozen? ⟨w.heap.size + 1 + 1, o, none⟩ = false := fun o => (hf6.1.frozen (by simp only; omega)).trans ((World.frozen?_setCell _ _ _ _).trans (RF.out o))
    have m0 : w6.cell? ⟨B, 0, none⟩ = some (.slice o0 R.secs.length q0) := cell_heap hc6 rfl
    have m1 : w6.cell? ⟨B, 1, none⟩ = some (.slice o1 R.hs.length q1) := cell_heap hc6 rfl
    have m2 : w6.cell? ⟨B, 2, none⟩ = some (.slice o2 R.ms.length q2) := cell_heap hc6 rfl
    have m3 : w6.cell? ⟨B, 3, none⟩ = some (.slice ao M.length cp) := cell_heap hc6 rfl
    have mf : w6.frozen? ⟨B, 3, none⟩ = false := frozen_of_row w6 _ _ _ _ hc6
    obtain ⟨m, hm⟩ : ∃ m, M2.length = m := ⟨_, rfl⟩
    have hfin := vb_end (P := P) hB (show w.heap.size ≤ w.heap.size + 1 + 1 by omega) z3 HBW.out.size hc6 hreg6 ho6 hb6 (fun b hb => HP.out b (by omega))
    rw [hm] at hfin
    rw [hm]
    have HB6 := Lib.hid (bset hb6 (p := ⟨B, 3, none⟩) (by simp only; omega) (.slice ao6 m cp6))
    have HFIN := Lib.hid hfin
    have hE := HEG.out
    have hLE := HLL.out
    rw [HM.out, HM2.out] at hE hLE
    clear hc6 hreg6 hb6 ho6 hf6 hfin y0 y1 y2 y3
    by_cases h4 : 400 < m
    · rw [if_pos (by rw [hm]; exact h4)] at hE
      subst hE
      have hR := HRR.out
      rw [if_neg (by decide)] at hR hLE
      have HR0 := Lib.hid hR
      have HL0 := Lib.hid hLE
      have mz : (400 : Int) < (m : Int) := by omega
      clear hR hLE hm
      go_wp2
      refine bodyPost_ret (v := .tuple #[.agg #[.slice none 0 0, .slice none 0 0, .slice none 0 0, .slice none 0 0], .int .i64 3]) (by simp [results, Tryz.results53, go_sem, *]) rfl (gaveV_nil HR0.out.symm HL0.out.symm rfl ?_)
      exact vset4 HB6.out (by omega) _ _ _ _
    · rw [if_neg (by rw [hm]; exact h4)] at hE
      subst hE
      have hR := HRR.out
      rw [if_pos rfl] at hR hLE
      have mz : ¬ (400 : Int) < (m : Int) := by omega
      subst hR
      subst hLE
      clear hm
      go_wp2
      refine bodyPost_ret (v := .tuple #[.agg #[.slice o0 R.secs.length q0, .slice o1 R.hs.length q1, .slice o2 R.ms.length q2, .slice ao6 m cp6], .int .i64 0]) (by simp [results, Tryz.results53, go_sem, *]) rfl ?_
      exact HFIN.out
end Go.Proofs.YthhoaefadfeknaaGreat
