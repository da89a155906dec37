/- A region that draws its order of evaluation, by an invariant on what has been carried out (XFlow's way, without a fence). -/
import Derived.Test.YtkdbdncboljfhaaRow
import Derived.Deep.RegionWith
namespace Go.Proofs.Ytkdbdncboljfhaa
open Go.RowKit
set_option linter.unusedVariables false
def vf_unl (l : Array Bool) : Nat := l.toList.count false
theorem vf_unl_set {l : Array Bool} {i : Nat} (h : l.getD i true = false) : vf_unl (l.setIfInBounds i true) + 1 = vf_unl l := by
  have hi : i < l.size := by
    rcases Nat.lt_or_ge i l.size with hi | hi
    · exact hi
    · rw [Array.getD_eq_getD_getElem?, Array.getElem?_eq_none hi] at h; simp at h
  have he : l[i] = false := by rw [Array.getD_eq_getD_getElem?, Array.getElem?_eq_getElem hi] at h; simpa using h
  have he' : l.toList[i] = false := by simpa using he
  have hm : 0 < l.toList.count false := List.count_pos_iff.2 (by rw [← he']; exact List.getElem_mem _)
  have hc := List.count_set (a := true) (b := false) (l := l.toList) (i := i) (by simpa using hi)
  have e : (l.setIfInBounds i true).toList = l.toList.set i true := by simp
  rw [if_pos (by rw [he']; rfl), if_neg (by decide)] at hc
  unfold vf_unl
  rw [e, hc]
  omega
theorem vf_unl_pos {l : Array Bool} {i : Nat} (h : l.getD i true = false) : 0 < vf_unl l := by have := vf_unl_set h; omega
section
variable {P : Program} {ops : Array Oper} {Q : Exit → Act → World → Prop} {md : Region.Mode}
theorem vf_anyP_inv {J : Array Bool → Act → World → Prop}
    (step : ∀ listed a w, J listed a w → ∀ i, i ∈ Region.ready md ops listed → ∀ K : Act → World → Prop, (∀ a' w', J (listed.setIfInBounds i true) a' w' → K a' w') → wpOp P ops Q i K a w)
    (fin : ∀ listed a w, J listed a w → Region.ready md ops listed = [] → Q .normal a w) :
    ∀ (fuel : Nat) (listed : Array Bool) (a : Act) (w : World), J listed a w → vf_unl listed ≤ fuel → wpAny P md ops Q fuel listed a w
  | 0, listed, a, w, hJ, hf => by
    have hr : Region.ready md ops listed = [] := List.eq_nil_iff_forall_not_mem.2 fun j hj => by
      have := vf_unl_pos (mem_ready.1 hj).1; omega
    exact ⟨hr, fin _ _ _ hJ hr⟩
  | fuel + 1, listed, a, w, hJ, hf =>
    ⟨fun hr => fin _ _ _ hJ hr, fun i hi => step listed a w hJ i hi _ fun a' w' h => vf_anyP_inv step fin fuel _ a' w' h (by have := vf_unl_set (mem_ready.1 hi).1; omega)⟩
theorem vf_wpOpP_of {i : Nat} {o : Oper} {K : Act → World → Prop} {a : Act} {w : World} (ho : ops[i]? = some o) (hw : Region.wanted o (yielded ops a.tmps) = true) (h : o.wp P a w K Q) : wpOp P ops Q i K a w := by
  unfold wpOp; rw [ho]; simp only [hw, if_true]; exact .inl h
def vf_backB (md : Region.Mode) (ops : Array Oper) : Bool := (List.range ops.size).all fun j => match ops[j]? with | some o => o.after.all (fun e => !Region.binds md e || decide (e.on < j)) | none => true
theorem vf_ready_full {listed : Array Bool} (hs : listed.size = ops.size) (hr : Region.ready md ops listed = []) (hb : vf_backB md ops = true) : ∀ j, j < ops.size → listed.getD j false = true := by
  intro j
  induction j using Nat.strongRecOn with
  | ind j ih =>
    intro hj
    cases hl : listed.getD j true with
    | true =>
      have hj' : j < listed.size := by omega
      rw [Array.getD_eq_getD_getElem?, Array.getElem?_eq_getElem hj'] at hl ⊢
      simpa using hl
    | false =>
      exfalso
      have hbj := List.all_eq_true.1 hb j (List.mem_range.2 hj)
      rw [Array.getElem?_eq_getElem hj] at hbj
      have hm : j ∈ Region.ready md ops listed := mem_ready.2 ⟨hl, ops[j], Array.getElem?_eq_getElem hj, fun e he hbi => by
        have := (Array.all_eq_true_iff_forall_mem.1 hbj) e he
        rw [hbi] at this
        have hlt : e.on < j := by simpa using this
        exact ih e.on hlt (by omega)⟩
      rw [hr] at hm
      cases hm
end
theorem vf_listed_ne {l : Array Bool} {i j : Nat} (h : i ≠ j) (hh : (l.setIfInBounds i true).getD j false = true) : l.getD j false = true := by rw [getD_set_ne _ h] at hh; exact hh
theorem vf_listed_keep {l : Array Bool} {i j : Nat} (hh : l.getD j false = true) : (l.setIfInBounds i true).getD j false = true := getD_set_true hh
theorem vf_listed_no {l : Array Bool} {i : Nat} (h : l.getD i true = false) : l.getD i false = false := by
  rw [Array.getD_eq_getD_getElem?] at h ⊢
  cases he : l[i]? with
  | none => rw [he] at h; simp at h
  | some b => rw [he] at h; simpa using h
theorem vf_listed_self {l : Array Bool} {i : Nat} (h : l.getD i true = false) : (l.setIfInBounds i true).getD i false = true := by
  have hi : i < l.size := by
    rcases Nat.lt_or_ge i l.size with hi | hi
    · exact hi
    · rw [Array.getD_eq_getD_getElem?, Array.getElem?_eq_none hi] at h; simp at h
  rw [Array.getD_eq_getD_getElem?, Array.getElem?_setIfInBounds]
  simp [hi]
end Go.Proofs.Ytkdbdncboljfhaa
