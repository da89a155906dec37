/- StripPays: the plain part, over all draws. -/
import Derived.Test.YthhoaefadfeknaaGreatZL37P
import Derived.Test.YthhoaefadfeknaaGreatZStV
namespace Go.Proofs.YthhoaefadfeknaaGreat
open Go.RowKit
set_option linter.unusedVariables false
set_option linter.unusedSimpArgs false
/-! sorting one by one, told without well-founded recursion: the kernel reckons it -/
def insI {α : Type} (lt : α → α → Bool) (x : α) : List α → List α
  | [] => [x]
  | y :: L => if lt y x then y :: insI lt x L else x :: y :: L
def srtI {α : Type} (lt : α → α → Bool) : List α → List α
  | [] => []
  | x :: L => insI lt x (srtI lt L)
theorem insI_eq {α : Type} (lt : α → α → Bool) (x : α) : ∀ L : List α, mrg lt [x] L = insI lt x L
  | [] => by rw [mrg_nil_r]; rfl
  | y :: L => by rw [mrg_cons, insI_eq lt x L, mrg_nil_l]; rfl
theorem srtI_eq {α : Type} (lt : α → α → Bool) : ∀ L : List α, srt lt L = srtI lt L
  | [] => rfl
  | x :: L => by rw [srt, insI_eq, srtI_eq lt L]; rfl
def qdI (R : Reg) (L : List Stp) (day : Int) : List Due := if qdE R L day = 0 then (srtI (ltz cmpD) (alD R L day)).foldl mgD [] else []
theorem qdI_eq (R : Reg) (L : List Stp) (day : Int) : qdL R L day = qdI R L day := by unfold qdL qdI; rw [srtI_eq]
/-- the sum of the first ones, as the law reckons it -/
def sumD (M : List Due) : Int := M.foldl (fun n x => wrap64 (n + x.a)) 0
theorem sumD_snoc {M : List Due} {k : Nat} {x : Due} (h : M[k]? = some x) : sumD (M.take (k + 1)) = wrap64 (sumD (M.take k) + x.a) := by
  unfold sumD; rw [take_snocZ h, List.foldl_append]; rfl
def pR (q : Int) : Reg := spR zR [] 5 1 1 (100 * q)
def pL (q : Int) : List Stp := spL zR [] 5 1 1 (100 * q)
structure PayQ (q day : Int) : Prop where
  e1 : spE zR [] 5 1 1 (100 * q) = 0
  c1 : chkE (pR q) = 0
  l1 : decide ((pL q).length ≤ 10) = true
  a1 : qdE zR [] day = 0
  b1 : qdE (pR q) (pL q) day = 0
  an : decide ((qdI zR [] day).length ≤ 10) = true
  bn : decide ((qdI (pR q) (pL q) day).length ≤ 10) = true
  b2 : (qdI (pR q) (pL q) day).all (fun x => !(x.h == 1000)) = true
  d1 : decide (wrap64 (sumD (qdI zR [] day) - sumD (qdI (pR q) (pL q) day)) ≤ 1) = true
  d2 : decide (wrap64 (sumD (qdI (pR q) (pL q) day) - sumD (qdI zR [] day)) ≤ 1) = true
  p1 : pyE (pR q) (pL q) day = 0
  pc : chkE (pyR (pR q) (pL q) day) = 0
  pn : decide ((pyL (pR q) (pL q) day).length ≤ 10) = true
  p2 : (pyL (pR q) (pL q) day).all (fun y => decide (day < y.d)) = true
  p3 : vkE (pyR (pR q) (pL q) day) (pyL (pR q) (pL q) day) = 0
  p4 : (decide (day < 720) || (pyL (pR q) (pL q) day).isEmpty && rgHeld (pyR (pR q) (pL q) day) 1 1000 == 0) = true
set_option maxHeartbeats 16000000 in
theorem payq {q day : Int} (hq : 1 ≤ q ∧ q ≤ 9) (hd : day ∈ [180, 360, 540, 720]) : PayQ q day := by
  have hqc : q = 1 ∨ q = 2 ∨ q = 3 ∨ q = 4 ∨ q = 5 ∨ q = 6 ∨ q = 7 ∨ q = 8 ∨ q = 9 := by omega
  simp only [List.mem_cons, List.not_mem_nil, or_false] at hd
  rcases hqc with rfl | rfl | rfl | rfl | rfl | rfl | rfl | rfl | rfl
  all_goals
    rcases hd with rfl | rfl | rfl | rfl
    all_goals exact ⟨by kernel_rfl, by kernel_rfl, by kernel_rfl, by kernel_rfl, by kernel_rfl, by kernel_rfl, by kernel_rfl, by kernel_rfl, by kernel_rfl, by kernel_rfl, by kernel_rfl, by kernel_rfl, by kernel_rfl, by kernel_rfl, by kernel_rfl, by kernel_rfl⟩
end Go.Proofs.YthhoaefadfeknaaGreat
