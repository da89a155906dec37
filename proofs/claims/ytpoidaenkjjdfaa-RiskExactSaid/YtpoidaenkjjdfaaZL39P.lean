/- The source's Rates. The laws of risk in plain Lean. -/
import Derived.Test.YtpoidaenkjjdfaaZRgR
import Derived.Test.YtpoidaenkjjdfaaZSrcReg
namespace Go.Proofs.Ytpoidaenkjjdfaa
open Go.RowKit
set_option linter.unusedVariables false
set_option linter.unusedSimpArgs false
def rateOk (x : Int) : Prop := x ∈ [(0 : Int), 1000, 5000, 20000]
theorem rates_path {L : List Int} (h : ∀ x ∈ L, rateOk x) (h1 : 1 ≤ L.length) (h2 : L.length ≤ 60) : pathB L = true := by
  unfold pathB badR
  rw [Bool.and_eq_true, decide_eq_true_eq, Bool.not_eq_true', List.any_eq_false]
  refine ⟨⟨h1, h2⟩, fun x hx => ?_⟩
  have := h x hx
  unfold rateOk at this
  simp only [List.mem_cons, List.not_mem_nil, or_false] at this
  simp only [Bool.not_eq_true', Bool.not_eq_false, inB_iff]
  omega
def RatesW (w : World) (sb : Nat) (e : Ending) (w' : World) : Prop := ∃ (v : Value) (L : List Int), e = .returned v ∧ w'.ownsRow w.heap.size 3 1 v L.length (flatE encI L) ∧ (1 ≤ L.length ∧ L.length ≤ 6) ∧ (∀ x ∈ L, rateOk x) ∧ SrcOk w' sb ∧ w.grownBy w' (some sb)
set_option maxHeartbeats 4000000 in
set_option maxRecDepth 100000 in
theorem srates_any (sb : Nat) (w : World) (hs : SrcOk w sb) :
    Calls Try.prog 48 #[.pointer (some ⟨sb, 0, none⟩)] w (RatesW w sb) := by
  have hlt := srcOk_lt hs
  obtain ⟨i1, hi, hz0, hz1, hz2⟩ := info_parts infoInt
  go_enter Try.func48, Try.ntmps48
  go_wp2_with fail
  refine (range_any sb 1 6 _ hs (by decide) (by decide) (by decide)).mono ?_
  rintro e w1 ⟨q, hq, rfl, hS1, hG1⟩
  obtain ⟨m, rfl⟩ : ∃ m : Nat, q = m := ⟨q.toNat, by omega⟩
  have HS1 := Lib.hid hS1
  have HG1 := Lib.hid hG1
  clear hs hS1 hG1
  go_wp2_with fail
  go_loopw [3, 4] (fun v jv wr => ∃ (j : Nat) (L : List Int), jv = .int .i64 j ∧ L.length + j = m ∧ wr.ownsRow w.heap.size 3 1 v L.length (flatE encI L) ∧ (∀ x ∈ L, rateOk x) ∧ SrcOk wr sb ∧ w.grownBy wr (some sb)) (fun _ jv _ => (intOf jv).toNat)
  case atStart => exact ⟨m, [], rfl, by simp, World.ownsRow_nil _ _ _ _, by simp, HS1.out, HG1.out⟩
  case round =>
    obtain ⟨j, L, rfl, hl, hown, hL, hS, hG⟩ := hrel
    have HS := Lib.hid hS
    have HG := Lib.hid hG
    have HO := Lib.hid hown
    have HL := Lib.hid hL
    have hsz := hG.size
    obtain ⟨fo, fc, rfl⟩ := own_slice0 hown
    clear hS hG hown hL
    by_cases hj : 0 < j
    · go_wp2_with fail
      refine (pick_lit sb [0, 1000, 5000, 20000] _ _ _ _ HS.out (by decide) (by decide) rfl rfl (by simp)).mono ?_
      rintro e w3 ⟨u, hu, rfl, hS3, hG3⟩
      have hgg : wr.grownBy w3 (some sb) := by first | exact hG3 | exact grownBy_trans (World.grownBy_alloc wr _ _) hG3
      have HS3 := Lib.hid hS3
      have HG3 := Lib.hid (grownBy_trans HG.out hgg)
      have hO3 := own_kept HO.out hgg (by omega)
      have z3 := hgg.size
      have HU := Lib.hid hu
      clear hS3 hG3 hgg hu
      go_wp2_with (at_builtin; go_must (refine wpList_append_own _ rfl _ _ 22 rfl w.heap.size 3 i1 (.int .i64 0) 1 8 Try.underlying22 hi hz0 hz1 hz2 rfl (by decide) _ L.length (flatE encI L) rfl (hO3.alloc _) ⟨w3.heap.size, 0, none⟩ 1 1 (encI u) rfl rfl (newsL _ _ _) (one1 _ _) (by unfold maxLen; omega) (by omega) (by simp; omega) ?_); intro v5 w5 hown5 hg5 _; have HB5 := Lib.hid (show Below w.heap.size w3 w5 from ((Below.refl _ w3).alloc (by omega) _).grown hg5 (by simp; omega) (fun q hq => (hO3.lt q hq).1)); have HOW := Lib.hid hown5; clear hg5 hown5)
      go_roundw
      case rel =>
        have hfin := src_fin HG3.out HS3.out HB5.out hlt
        have hmem : ∀ x ∈ L ++ [u], rateOk x := by
          intro x hx
          rcases List.mem_append.1 hx with h | h
          · exact HL.out x h
          · rw [List.mem_singleton.1 h]; exact HU.out
        exact ⟨j - 1, L ++ [u], by go_num, by simp; omega, by rw [flatE_snoc, List.length_append]; exact HOW.out, hmem, hfin.1, hfin.2⟩
      case measure => simp [intOf]; omega
    · have hj0 : j = 0 := by omega
      subst hj0
      go_wp2
      go_ret
      exact ⟨_, L, rfl, HO.out, by omega, HL.out, HS.out, HG.out⟩
end Go.Proofs.Ytpoidaenkjjdfaa
namespace Go.Proofs.Ytpoidaenkjjdfaa
open Go.RowKit
set_option linter.unusedVariables false
set_option linter.unusedSimpArgs false
theorem yr_nonneg {R : Reg} (h : RgOk R) : ∀ x ∈ R.hs, 0 ≤ yrOf (secOf R x).ma := fun x hx => by
  have hs := h.rh.sec x hx
  have := hs.is0
  have := hs.ma0
  have := hs.ma2
  unfold yrOf
  rw [if_pos (inB_iff.2 (by omega))]
  omega
theorem prE_ok {R : Reg} {y0 : Int} {L : List Int} (h : RgOk R) (hp : pathB L = true) (h0 : 0 ≤ y0) (h1 : y0 ≤ 100) : prE R y0 L = 0 := by
  unfold prE; rw [if_pos (chkE_iff.2 h), if_pos hp, if_pos (inB_iff.2 ⟨h0, h1⟩)]
/-- RiskDebt: a round of a projection from the beginning on -/
theorem prj_debt {R : Reg} (h : RgOk R) (L : List Int) (k : Nat) : (prjS R 0 L k).d = rgDebt R := by
  rw [← h.tot.2.2]
  unfold prjS rais
  refine (sumF_add (f := lateF R (0 + k)) (g := raiF R 0 (0 + (k + 1 : Nat))) fun x hx => ?_).symm
  have := yr_nonneg h x hx
  unfold lateF raiF amtF
  split <;> split <;> omega
theorem prj_year (R : Reg) (L : List Int) (k : Nat) : (prjS R 0 L k).yr = k := by unfold prjS; simp
theorem prj_int {R : Reg} (h : RgOk R) {L : List Int} (hp : pathB L = true) (y0 : Int) (k : Nat) : 0 ≤ (prjS R y0 L k).i := by
  unfold prjS prjI
  have h1 := coup_bd h (y0 + k)
  have h2 := rais_bd h y0 k
  have h3 := oldR_bd hp k
  have h4 := mul_bd h2.1 h2.2 h3.1 h3.2
  have h5 : 0 ≤ (rais R y0 k * oldR L k + 50000) / 100000 := Int.ediv_nonneg (by omega) (by omega)
  simp only
  omega
theorem prj_grow {R : Reg} (h : RgOk R) (L : List Int) (y0 : Int) (k : Nat) : (prjS R y0 L k).p ≤ (prjS R y0 L (k + 1)).p := by
  have h1 := rais_succ R y0 (k + 1)
  have h2 := fall_bd h (y0 + ((k + 1 : Nat) : Int))
  unfold prjS
  simp only
  omega
theorem prL_len {R : Reg} {y0 : Int} {L : List Int} (h : prE R y0 L = 0) : (prL R y0 L).length = L.length := by unfold prL; rw [if_pos h]; simp
theorem prL_at {R : Reg} {y0 : Int} {L : List Int} (h : prE R y0 L = 0) {k : Nat} {x : Svc} (hx : (prL R y0 L)[k]? = some x) : x = prjS R y0 L k := by
  unfold prL at hx
  rw [if_pos h] at hx
  rw [List.getElem?_map] at hx
  cases hr : (List.range L.length)[k]? with
  | none => rw [hr] at hx; simp at hx
  | some j =>
    rw [hr] at hx
    simp only [Option.map_some, Option.some.injEq] at hx
    obtain ⟨hk, hj⟩ := List.getElem?_eq_some_iff.1 hr
    simp only [List.getElem_range] at hj
    rw [← hx, hj]
end Go.Proofs.Ytpoidaenkjjdfaa
