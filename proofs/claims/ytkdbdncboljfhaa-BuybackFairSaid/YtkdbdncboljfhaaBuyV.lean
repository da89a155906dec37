/- Buyback: Given, Same; the chapter's example. -/
import Derived.Test.YtkdbdncboljfhaaBuyH
import Derived.BigQuiet
namespace Go.Proofs.Ytkdbdncboljfhaa
open Go.RowKit
set_option linter.unusedVariables false
set_option linter.unusedSimpArgs false
/-- what a bid got -/
def gvA : List Awd → Int → Int → Int
  | [], _, _ => 0
  | x :: A, b, n => if x.bd = b ∧ x.num = n then x.a else gvA A b n
set_option maxHeartbeats 4000000 in
set_option maxRecDepth 100000 in
theorem rgiven_any (P : Nat → Prop) (cut sold : Int) (av : Value) (A : List Awd) (b n : Int) (w : World) (hS : Sl 4 encAwd P w av A) (hl : A.length ≤ 1000) :
    Calls Try.prog 12 #[.agg #[.int .i64 cut, .int .i64 sold, av], .int .i64 b, .int .i64 n] w fun e w' => e = .returned (.int .i64 (gvA A b n)) ∧ Below w.heap.size w w' := by
  obtain ⟨aa, m, ac, rfl, hm, -, -⟩ := hS.shape
  have hm1 : m ≤ 1000 := by omega
  obtain ⟨V, hV⟩ : ∃ V, gvA A b n = V := ⟨_, rfl⟩
  rw [hV]
  have HS := Lib.hid hS
  have HM := Lib.hid hm
  have HV := Lib.hid hV
  clear hS hm hl hV
  go_enter Try.func12, Try.ntmps12
  go_wp2
  go_loopw [12] (fun iv wr => ∃ k : Nat, k ≤ m ∧ iv = .int .i64 k ∧ V = gvA (A.drop k) b n ∧ Below w.heap.size w wr) (fun iv _ => m - (intOf iv).toNat)
  case atStart => exact ⟨0, by omega, rfl, by rw [List.drop_zero]; exact HV.out.symm, bal brefl _⟩
  case round =>
    obtain ⟨k, hk, rfl, hv, hbr⟩ := hrel
    have zr := hbr.size
    by_cases hlt : k < m
    · obtain ⟨bb, off, x0, x1, x2, x3, rfl, -, hbb, hx, k0, k1, k2, k3⟩ := (HS.out.below hbr).awd hlt
      have hkz : (k : Int) < (m : Int) := by omega
      rw [drop_cons hx] at hv
      simp only [gvA] at hv
      have HVV := Lib.hid hv
      have HBR := Lib.hid hbr
      clear hx hv hbr
      by_cases h0 : x0 = b
      · subst h0
        by_cases h1 : x1 = n
        · subst h1
          have hf := Lib.hid (show V = x2 by rw [HVV.out, if_pos ⟨rfl, rfl⟩])
          go_wp2
          go_ret
          exact ⟨ret_int hf.out.symm, bal HBR.out _⟩
        · have hf := Lib.hid (show V = gvA (A.drop (k + 1)) x0 n by rw [HVV.out, if_neg (fun h => h1 h.2)])
          have h1' : (x1 == n) = false := by simpa using h1
          go_wp2
          go_roundw
          case rel => exact ⟨k + 1, by omega, by go_num, hf.out, bal HBR.out _⟩
          case measure => simp [intOf]; omega
      · have hf := Lib.hid (show V = gvA (A.drop (k + 1)) b n by rw [HVV.out, if_neg (fun h => h0 h.1)])
        have h0' : (x0 == b) = false := by simpa using h0
        go_wp2
        go_roundw
        case rel => exact ⟨k + 1, by omega, by go_num, hf.out, bal HBR.out _⟩
        case measure => simp [intOf]; omega
    · have hf := Lib.hid (show V = 0 by rw [hv, List.drop_of_length_le (by have := HM.out; omega)]; rfl)
      clear hv
      go_wp2
      go_ret
      exact ⟨ret_int hf.out.symm, hbr⟩
set_option maxHeartbeats 4000000 in
set_option maxRecDepth 100000 in
theorem rsame_eq (P Q : Nat → Prop) (cut sold : Int) (av bv : Value) (A : List Awd) (w : World) (hS : Sl 4 encAwd P w av A) (hT : Sl 4 encAwd Q w bv A) (hl : A.length ≤ 1000) :
    Calls Try.prog 10 #[.agg #[.int .i64 cut, .int .i64 sold, av], .agg #[.int .i64 cut, .int .i64 sold, bv]] w fun e w' => e = .returned (.bool true) ∧ Below w.heap.size w w' := by
  obtain ⟨aa, m, ac, rfl, hm, -, -⟩ := hS.shape
  obtain ⟨ba, m', bc, rfl, hm', -, -⟩ := hT.shape
  obtain rfl : m' = m := by omega
  have hm1 : m' ≤ 1000 := by omega
  have HS := Lib.hid hS
  have HT := Lib.hid hT
  have HM := Lib.hid hm
  clear hS hT hm hm' hl
  go_enter Try.func10, Try.ntmps10
  go_wp2
  go_loopw [30] (fun iv wr => ∃ k : Nat, k ≤ m' ∧ iv = .int .i64 k ∧ Below w.heap.size w wr ∧ wr.cell? ⟨w.heap.size, 2, none⟩ = some (.slice aa m' ac) ∧ wr.cell? ⟨w.heap.size + 1, 2, none⟩ = some (.slice ba m' bc)) (fun iv _ => m' - (intOf iv).toNat)
  case atStart => exact ⟨0, by omega, rfl, bal (bal brefl _) _, by go_simp, by go_simp⟩
  case round =>
    obtain ⟨k, hk, rfl, hbr, ca, cb⟩ := hrel
    have zr := hbr.size
    by_cases hlt : k < m'
    · obtain ⟨bb, off, x0, x1, x2, x3, rfl, -, hbb, hx, k0, k1, k2, k3⟩ := (HS.out.below hbr).awd hlt
      obtain ⟨bb', off', y0, y1, y2, y3, rfl, -, hbb', hy, j0, j1, j2, j3⟩ := (HT.out.below hbr).awd hlt
      rw [hx] at hy
      cases hy
      have hkz : (k : Int) < (m' : Int) := by omega
      have hk0 : 0 ≤ (k : Int) := by omega
      have HBR := Lib.hid hbr
      clear hx hbr
      go_wp2_with fail
      go_quiet (fail)
      go_wp2
      go_roundw
      case rel => exact ⟨k + 1, by omega, by go_num, bdrN HBR.out, ca, cb⟩
      case measure => simp [intOf]; omega
    · have HBR := Lib.hid hbr
      clear hbr
      go_wp2
      go_ret
      exact ⟨rfl, HBR.out⟩
/-! sorting told without well-founded recursion -/
def insJ {α : Type} (lt : α → α → Bool) (x : α) : List α → List α
  | [] => [x]
  | y :: L => if lt y x then y :: insJ lt x L else x :: y :: L
def srtJ {α : Type} (lt : α → α → Bool) : List α → List α
  | [] => []
  | x :: L => insJ lt x (srtJ lt L)
theorem insJ_eq {α : Type} (lt : α → α → Bool) (x : α) : ∀ L : List α, mrg lt [x] L = insJ lt x L
  | [] => by rw [mrg_nil_r]; rfl
  | y :: L => by rw [mrg_cons, insJ_eq lt x L, mrg_nil_l]; rfl
theorem srtJ_eq {α : Type} (lt : α → α → Bool) : ∀ L : List α, srt lt L = srtJ lt L
  | [] => rfl
  | x :: L => by rw [srt, insJ_eq, srtJ_eq lt L]; rfl
/-- the tenders of the example -/
def twoL : List Tdr := [⟨1, 1, 101000, 3000⟩, ⟨2, 1, 100000, 4000⟩]
theorem twoOk : ∀ x ∈ twoL, TdrOk x := by
  intro x hx
  simp only [twoL, List.mem_cons, List.not_mem_nil, or_false] at hx
  rcases hx with rfl | rfl <;> exact ⟨by decide, by decide, by decide, by decide, by decide, by decide, by decide, by decide, by decide⟩
theorem twoK : KeysT twoL := by unfold KeysT twoL; simp
theorem two_p : bkP twoL 200000 = [⟨2, 1, 100000, 4000⟩, ⟨1, 1, 101000, 3000⟩] := by unfold bkP srT; rw [srtJ_eq, srtJ_eq]; kernel_rfl
theorem two_f : bkF twoL 5000 200000 = [4, 1] := by unfold bkF; rw [two_p]; kernel_rfl
theorem two_c : bkC twoL 5000 200000 = 101000 := by unfold bkC; rw [two_p, two_f]; kernel_rfl
theorem two_s : bkS twoL 5000 200000 = 5000 := by unfold bkS; rw [two_p, two_f]; kernel_rfl
theorem two_a : bkA twoL 5000 200000 = [⟨1, 1, 1000, 101000⟩, ⟨2, 1, 4000, 100000⟩] := by unfold bkA; rw [two_p, two_f, srtJ_eq]; kernel_rfl
theorem sl_two {w : World} {g : Nat} (h : w.heap[g]? = some (.cells #[.int .i64 1, .int .i64 1, .int .i64 101000, .int .i64 3000, .int .i64 2, .int .i64 1, .int .i64 100000, .int .i64 4000] 28 (0, 0))) : Sl 4 encTdr (fun _ => True) w (.slice (some ⟨g, 0, none⟩) 2 2) twoL := by
  have hl : g < w.heap.size := (Array.getElem?_eq_some_iff.1 h).1
  refine ⟨_, 2, 2, rfl, rfl, Nat.le_refl _, by unfold maxLen; omega, .inr ⟨g, 0, rfl, trivial, hl, fun k x hk i u hi => ?_⟩⟩
  have hk2 : k < 2 := by have := (List.getElem?_eq_some_iff.1 hk).1; simpa [twoL] using this
  have hi4 : i < 4 := by have := (List.getElem?_eq_some_iff.1 hi).1; simpa [encTdr] using this
  rcases (show k = 0 ∨ k = 1 by omega) with rfl | rfl <;>
    (simp only [twoL, List.getElem?_cons_zero, List.getElem?_cons_succ, Option.some.injEq] at hk; subst hk; rcases (show i = 0 ∨ i = 1 ∨ i = 2 ∨ i = 3 by omega) with rfl | rfl | rfl | rfl <;> (simp [encTdr] at hi; subst hi; exact cell_heap h rfl))
set_option maxHeartbeats 8000000 in
set_option maxRecDepth 100000 in
theorem sane38_any (w : World) : Calls Try.prog 11 #[] w fun e w' => e = .returned (.bool true) ∧ Below w.heap.size w w' := by
  have KH := Lib.hid (fun (U : World) (v : Value) (hS : Sl 4 encTdr (fun _ => True) U v twoL) => bhold_any (fun _ => True) v twoL 5000 200000 U hS twoOk twoK (by decide) (by decide) (by decide) (by decide) (by decide) (by decide))
  rw [two_c, two_s, two_a] at KH
  have KG := Lib.hid (fun (U : World) (av : Value) (b n : Int) (hS : Sl 4 encAwd (fun _ => True) U av [⟨1, 1, 1000, 101000⟩, ⟨2, 1, 4000, 100000⟩]) => rgiven_any (fun _ => True) 101000 5000 av _ b n U hS (by decide))
  go_enter Try.func11, Try.ntmps11
  go_wp2_with fail
  refine (KH.out _ _ (sl_two (heap_alloc_new _ _))).mono ?_
  rintro e w2 ⟨av, rfl, ho2, hb2⟩
  have hA2 : Sl 4 encAwd (fun _ => True) w2 av [⟨1, 1, 1000, 101000⟩, ⟨2, 1, 4000, 100000⟩] := Sl.own encAwd_len ho2 rfl (fun _ _ => trivial)
  obtain ⟨aa, ac, rfl⟩ := own_sl ho2
  have HA2 := Lib.hid hA2
  have HB2 := Lib.hid (bup (bal brefl _) hb2)
  clear ho2 hb2 hA2
  go_wp2_with fail
  refine (KG.out _ _ 2 1 (HA2.out.below (bal brefl _))).mono ?_
  rintro e w3 ⟨rfl, hb3⟩
  have HB3 := Lib.hid (bup (bal brefl _) hb3)
  have c0 : w3.cell? ⟨w2.heap.size, 0, none⟩ = some (.int .i64 101000) := boxed_cell hb3 0 rfl
  have c1 : w3.cell? ⟨w2.heap.size, 1, none⟩ = some (.int .i64 5000) := boxed_cell hb3 1 rfl
  have c2 : w3.cell? ⟨w2.heap.size, 2, none⟩ = some (.slice aa [(⟨1, 1, 1000, 101000⟩ : Awd), ⟨2, 1, 4000, 100000⟩].length ac) := boxed_cell hb3 2 rfl
  clear hb3
  have e1 : gvA [⟨1, 1, 1000, 101000⟩, ⟨2, 1, 4000, 100000⟩] 2 1 = 4000 := by decide
  have e2 : gvA [⟨1, 1, 1000, 101000⟩, ⟨2, 1, 4000, 100000⟩] 1 1 = 1000 := by decide
  simp only [List.length_cons, List.length_nil, Nat.reduceAdd] at c2
  go_wp2_with fail
  refine (KG.out _ _ 1 1 (HA2.out.below HB3.out)).mono ?_
  rintro e w4 ⟨rfl, hb4⟩
  go_wp2
  go_ret
  exact ⟨ret_bool (by first | rfl | simp [e1, e2]), bup HB2.out (bup HB3.out hb4)⟩
end Go.Proofs.Ytkdbdncboljfhaa
