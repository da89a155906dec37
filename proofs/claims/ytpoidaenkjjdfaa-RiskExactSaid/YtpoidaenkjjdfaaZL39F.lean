/- RiskFalls in plain Lean. -/
import Derived.Test.YtpoidaenkjjdfaaZRgK
import Derived.Test.YtpoidaenkjjdfaaZL39P
namespace Go.Proofs.Ytpoidaenkjjdfaa
open Go.RowKit
set_option linter.unusedVariables false
set_option linter.unusedSimpArgs false
theorem fsE_ok {R : Reg} (h : RgOk R) : fsE R 0 60 = 0 := by unfold fsE; rw [if_pos (chkE_iff.2 h)]; rfl
theorem tmE_ok {R : Reg} (h : RgOk R) {day : Int} (h0 : 0 ≤ day) (h1 : day ≤ 36000) : tmE R day = 0 := by unfold tmE; rw [if_pos (chkE_iff.2 h), if_pos (inB_iff.2 ⟨h0, h1⟩)]
theorem like_yr {R : Reg} {day : Int} (h : RegLike R day) : ∀ x ∈ R.hs, yrOf (secOf R x).ma < 60 := fun x hx => by
  have hok := h.ok
  have hf := repl_secs R.secs R.ms 0 0 [] hok.ok (by simp) x (by rw [hok.hs]; exact hx)
  obtain ⟨s, hs⟩ := Option.isSome_iff_exists.1 hf
  have hm := (findS_mem hs).1
  have h1 := secB_iff.1 (hok.sec s hm)
  have h2 := (h.secs s hm).2.his
  have h3 := h1.ma1
  simp only [List.mem_cons, List.not_mem_nil, or_false] at h2
  have e : secOf R x = s := by unfold secOf; rw [hs]; rfl
  rw [e]
  unfold yrOf
  split <;> omega
theorem rais_fs (R : Reg) : ∀ k : Nat, sumF (fsF R 0) (List.range k) = rais R 0 k
  | 0 => by rw [rais_zero]; rfl
  | k + 1 => by rw [List.range_succ, sumF_app, rais_fs R k, rais_succ]; simp [sumF, fsF]; omega
theorem sumF_map {α β : Type} (f : β → Int) (g : α → β) : ∀ L : List α, sumF f (L.map g) = sumF (fun x => f (g x)) L
  | [] => rfl
  | x :: L => by simp only [List.map_cons, sumF, sumF_map f g L]
theorem fs_total {R : Reg} {day : Int} (h : RegLike R day) : sumF id (fsL R 0 60) = rgDebt R := by
  have e : fsL R 0 60 = (List.range 60).map (fsF R 0) := by unfold fsL; rw [if_pos (fsE_ok h.ok)]; rfl
  rw [e, sumF_map]
  have h1 := rais_fs R 60
  have h2 : rais R 0 60 = sumF amtF R.hs := by
    have := (sumF_add (f := raiF R 0 (0 + (60 : Nat))) (g := fun _ => 0) (h := amtF) (L := R.hs) fun x hx => by
      have h1 := yr_nonneg h.ok x hx
      have h2 := like_yr h x hx
      unfold raiF amtF
      rw [if_pos ⟨h1, by omega⟩]; omega)
    rw [sumF_zero (f := fun _ => 0) fun _ _ => rfl] at this
    unfold rais
    omega
  rw [h2, h.ok.tot.2.2] at h1
  exact h1
theorem max_zero {L : List Int} (h : 1 ≤ L.length) (h0 : ∀ x ∈ L, 0 ≤ x) : L.foldl max 0 = mxL L := by
  have h1 := mxL_mem h
  have h2 := (foldl_max_ge 0 L).2 _ h1
  rcases foldl_max_mem 0 L with h3 | h3
  · have := h0 _ h1; omega
  · have := mxL_ge _ h3; omega
theorem gt_facts {R : Reg} (h : RgOk R) : ∃ y : Nat, gtY R 0 60 = y ∧ y < 60 ∧ (fsL R 0 60)[y]? = some (mxL (fsL R 0 60)) ∧ 0 ≤ gtP R 0 60 ∧ gtP R 0 60 ≤ 100 := by
  have he := fsE_ok h
  have hl := fsL_len he
  have hm := mxL_mem (L := fsL R 0 60) (by omega)
  have hb := fsL_bd he _ hm
  unfold gtY gtP
  rw [if_pos he, if_pos he]
  by_cases hz : mxL (fsL R 0 60) = 0
  · rw [if_pos hz, if_pos hz]
    have h0 : (0 : Nat) < (fsL R 0 60).length := by omega
    have hx := (fsL_bd he _ (List.getElem_mem h0)).1
    have hg := mxL_ge _ (List.getElem_mem h0)
    refine ⟨0, rfl, by omega, ?_, by omega, by omega⟩
    rw [List.getElem?_eq_getElem h0]
    congr 1
    omega
  · rw [if_neg hz, if_neg hz]
    have hi := ixL_lt hm
    refine ⟨ixL (fsL R 0 60) (mxL (fsL R 0 60)), by omega, by omega, ixL_get hm, Int.ediv_nonneg (by omega) (by omega), ?_⟩
    have : mxL (fsL R 0 60) * 100 / rgDebt R ≤ rgDebt R * 100 / rgDebt R := Int.ediv_le_ediv (by omega) (by omega)
    rw [Int.mul_ediv_cancel_left _ (show rgDebt R ≠ 0 by omega)] at this
    exact this
def nearF (R : Reg) (day : Int) (L : List Hold) : Int := L.foldl (fun a x => if day < (secOf R x).ma then min a ((secOf R x).ma - day) else a) 36000
def farF (R : Reg) (day : Int) (L : List Hold) : Int := L.foldl (fun a x => if day < (secOf R x).ma then max a ((secOf R x).ma - day) else a) 0
theorem near_snoc {R : Reg} {day : Int} {L : List Hold} {k : Nat} {x : Hold} (h : L[k]? = some x) : nearF R day (L.take (k + 1)) = if day < (secOf R x).ma then min (nearF R day (L.take k)) ((secOf R x).ma - day) else nearF R day (L.take k) := by
  rw [take_snocZ h]; unfold nearF; rw [List.foldl_append]; rfl
theorem far_snoc {R : Reg} {day : Int} {L : List Hold} {k : Nat} {x : Hold} (h : L[k]? = some x) : farF R day (L.take (k + 1)) = if day < (secOf R x).ma then max (farF R day (L.take k)) ((secOf R x).ma - day) else farF R day (L.take k) := by
  rw [take_snocZ h]; unfold farF; rw [List.foldl_append]; rfl
theorem near_all (R : Reg) (day : Int) : ∀ (L : List Hold) (a : Int), 0 ≤ a → (L.foldl (fun a x => if day < (secOf R x).ma then min a ((secOf R x).ma - day) else a) a ≤ a ∧ 0 ≤ L.foldl (fun a x => if day < (secOf R x).ma then min a ((secOf R x).ma - day) else a) a) ∧ ∀ x ∈ L, day < (secOf R x).ma → L.foldl (fun a x => if day < (secOf R x).ma then min a ((secOf R x).ma - day) else a) a ≤ (secOf R x).ma - day
  | [], a, h => by simp; exact h
  | y :: L, a, h => by
    obtain ⟨h1, h2⟩ := near_all R day L (if day < (secOf R y).ma then min a ((secOf R y).ma - day) else a) (by split <;> omega)
    simp only [List.foldl_cons]
    refine ⟨⟨?_, h1.2⟩, fun x hx hd => ?_⟩
    · refine Int.le_trans h1.1 ?_
      split <;> omega
    · rcases List.mem_cons.1 hx with rfl | hx
      · refine Int.le_trans h1.1 ?_
        rw [if_pos hd]; omega
      · exact h2 x hx hd
theorem far_all (R : Reg) (day : Int) : ∀ (L : List Hold) (a : Int), a ≤ L.foldl (fun a x => if day < (secOf R x).ma then max a ((secOf R x).ma - day) else a) a ∧ ∀ x ∈ L, day < (secOf R x).ma → (secOf R x).ma - day ≤ L.foldl (fun a x => if day < (secOf R x).ma then max a ((secOf R x).ma - day) else a) a
  | [], a => by simp
  | y :: L, a => by
    obtain ⟨h1, h2⟩ := far_all R day L (if day < (secOf R y).ma then max a ((secOf R y).ma - day) else a)
    simp only [List.foldl_cons]
    refine ⟨Int.le_trans ?_ h1, fun x hx hd => ?_⟩
    · split <;> omega
    · rcases List.mem_cons.1 hx with rfl | hx
      · refine Int.le_trans ?_ h1
        rw [if_pos hd]; omega
      · exact h2 x hx hd
theorem far_bd {R : Reg} (h : RgOk R) {day : Int} (h0 : 0 ≤ day) : ∀ (L : List Hold) (a : Int), (∀ x ∈ L, x ∈ R.hs) → a ≤ 36000 → L.foldl (fun a x => if day < (secOf R x).ma then max a ((secOf R x).ma - day) else a) a ≤ 36000
  | [], a, _, ha => by simpa using ha
  | y :: L, a, hl, ha => by
    have := (h.rh.sec y (hl y (List.mem_cons_self ..))).ma2
    simp only [List.foldl_cons]
    exact far_bd h h0 L _ (fun x hx => hl x (List.mem_cons_of_mem _ hx)) (by split <;> omega)
theorem near_bd (R : Reg) (day : Int) (k : Nat) : 0 ≤ nearF R day (R.hs.take k) ∧ nearF R day (R.hs.take k) ≤ 36000 := by
  have := (near_all R day (R.hs.take k) 36000 (by omega)).1
  exact ⟨this.2, this.1⟩
theorem far_bdk {R : Reg} (h : RgOk R) {day : Int} (h0 : 0 ≤ day) (k : Nat) : 0 ≤ farF R day (R.hs.take k) ∧ farF R day (R.hs.take k) ≤ 36000 :=
  ⟨(far_all R day (R.hs.take k) 0).1, far_bd h h0 _ _ (fun x hx => List.mem_of_mem_take hx) (by omega)⟩
theorem num_ge {R : Reg} (h : RgOk R) (day : Int) : nearF R day R.hs * sumF (tmD R day) R.hs ≤ sumF (tmN R day) R.hs := by
  rw [← sumF_mul]
  refine sumF_le fun x hx => ?_
  have ha := (h.rh.amt x hx).1
  unfold tmD tmN
  split
  · rename_i hd
    rw [Int.mul_comm]
    exact Int.mul_le_mul_of_nonneg_left ((near_all R day R.hs 36000 (by omega)).2 x hx hd) ha
  · simp
theorem num_le {R : Reg} (h : RgOk R) (day : Int) : sumF (tmN R day) R.hs ≤ farF R day R.hs * sumF (tmD R day) R.hs := by
  rw [← sumF_mul]
  refine sumF_le fun x hx => ?_
  have ha := (h.rh.amt x hx).1
  unfold tmD tmN
  split
  · rename_i hd
    rw [Int.mul_comm (farF R day R.hs)]
    exact Int.mul_le_mul_of_nonneg_left ((far_all R day R.hs 0).2 x hx hd) ha
  · simp
theorem ffind_of (P : Nat → Prop) (vs vh vm : Value) (R : Reg) (x : Hold) (w : World) (hr : RgIn P w vs vh vm R) (hlen : R.secs.length ≤ 1000000) :
    ∃ b, Calls Try.prog 33 #[.agg #[vs, vh, vm], .int .i64 x.s] w fun e w' => e = .returned (.tuple #[aggSec (secOf R x), .bool b]) ∧ Below w.heap.size w w' := by
  unfold secOf
  cases hf : findS R.secs x.s with
  | none => exact ⟨false, (ffind_no P vs vh vm R x.s w hr hlen hf).mono fun e w' ⟨h1, h2⟩ => ⟨h1, h2⟩⟩
  | some s =>
    obtain ⟨id, un, is, ma, ra, ev, ix⟩ := s
    exact ⟨true, (ffind_yes P vs vh vm R x.s id un is ma ra ev ix w hr hlen hf).mono fun e w' ⟨h1, h2⟩ => ⟨h1, h2⟩⟩
end Go.Proofs.Ytpoidaenkjjdfaa
