/- Strips: due, the order of what is due, and who holds it. Strips: what is due with strips, plain. Strips: Pending. -/
import Derived.Test.YthhoaefadfeknaaGreatZStT
import Derived.Test.YthhoaefadfeknaaGreatZStE
import Derived.Test.YthhoaefadfeknaaGreatZStDueG
import Derived.Test.YthhoaefadfeknaaGreatZCpnE
import Derived.Test.YthhoaefadfeknaaGreatZFnDue
import Derived.Test.YthhoaefadfeknaaGreatZRegP
import Derived.Test.YthhoaefadfeknaaGreatZCont
import Derived.RegionTactic
import Derived.ChangeAlike
namespace Go.Proofs.YthhoaefadfeknaaGreat
open Go.RowKit
set_option linter.unusedVariables false
set_option linter.unusedSimpArgs false
def cmpD (x y : Due) : Int := orL [cmpI x.s y.s, cmpI x.h y.h, cmpI x.kind y.kind]
theorem cmpI_neg (a b : Int) : cmpI a b < 0 ↔ a < b := by
  unfold cmpI
  by_cases h1 : a < b
  · simp [h1]
  · by_cases h2 : b < a
    · simp [h1, h2]
    · simp [h1, h2]
theorem cmpI_zero (a b : Int) : cmpI a b = 0 ↔ a = b := by
  unfold cmpI
  by_cases h1 : a < b
  · rw [if_pos h1]; omega
  · rw [if_neg h1]
    by_cases h2 : b < a
    · rw [if_pos h2]; omega
    · rw [if_neg h2]; omega
theorem orL3_neg (p q r : Int) : orL [p, q, r] < 0 ↔ p < 0 ∨ p = 0 ∧ (q < 0 ∨ q = 0 ∧ r < 0) := by
  simp only [orL]
  by_cases h1 : p = 0
  · rw [if_pos h1]
    by_cases h2 : q = 0
    · rw [if_pos h2]
      by_cases h3 : r = 0
      · rw [if_pos h3]; omega
      · rw [if_neg h3]; omega
    · rw [if_neg h2]; omega
  · rw [if_neg h1]; omega
theorem orL3_zero (p q r : Int) : orL [p, q, r] = 0 ↔ p = 0 ∧ q = 0 ∧ r = 0 := by
  simp only [orL]
  by_cases h1 : p = 0
  · rw [if_pos h1]
    by_cases h2 : q = 0
    · rw [if_pos h2]
      by_cases h3 : r = 0
      · rw [if_pos h3]; omega
      · rw [if_neg h3]; omega
    · rw [if_neg h2]; omega
  · rw [if_neg h1]; omega
theorem cmpD_neg (x y : Due) : cmpD x y < 0 ↔ x.s < y.s ∨ x.s = y.s ∧ (x.h < y.h ∨ x.h = y.h ∧ x.kind < y.kind) := by
  unfold cmpD
  rw [orL3_neg, cmpI_neg, cmpI_neg, cmpI_neg, cmpI_zero, cmpI_zero]
theorem cmpD_zero (x y : Due) : cmpD x y = 0 ↔ x.s = y.s ∧ x.h = y.h ∧ x.kind = y.kind := by
  unfold cmpD
  rw [orL3_zero, cmpI_zero, cmpI_zero, cmpI_zero]
theorem cmpD_wk : Wk (ltz cmpD) := by
  constructor
  · intro x y h
    unfold ltz at h ⊢
    rw [decide_eq_true_iff, cmpD_neg] at h
    rw [decide_eq_false_iff_not, cmpD_neg]
    omega
  · intro x y z h1 h2
    unfold ltz at h1 h2 ⊢
    rw [decide_eq_false_iff_not, cmpD_neg] at h1 h2 ⊢
    omega
theorem sl3 {a b c : Int} {w : World} {B : Nat} (h0 : w.cell? ⟨B, 0, none⟩ = some (.int .i64 a)) (h1 : w.cell? ⟨B, 1, none⟩ = some (.int .i64 b)) (h2 : w.cell? ⟨B, 2, none⟩ = some (.int .i64 c)) : Sl 1 encI (fun _ => True) w (.slice (some ⟨B, 0, none⟩) 3 3) [a, b, c] := by
  refine ⟨_, 3, 3, rfl, rfl, Nat.le_refl _, by unfold maxLen; omega, .inr ⟨B, 0, rfl, trivial, World.block_lt_of_cell? w _ h0, fun j x hj i u hi => ?_⟩⟩
  have hj4 : j < 3 := by have := (List.getElem?_eq_some_iff.1 hj).1; simpa using this
  have hi1 : i < 1 := by have := (List.getElem?_eq_some_iff.1 hi).1; simpa [encI] using this
  obtain rfl : i = 0 := by omega
  simp only [encI, List.getElem?_cons_zero, Option.some.injEq] at hi
  subst hi
  rcases (show j = 0 ∨ j = 1 ∨ j = 2 by omega) with rfl | rfl | rfl
  · simp at hj; subst hj; simpa using h0
  · simp at hj; subst hj; simpa using h1
  · simp at hj; subst hj; simpa using h2
set_option maxHeartbeats 4000000 in
set_option maxRecDepth 100000 in
theorem stdue_any (d s h k a d' s' h' k' a' : Int) (w : World) :
    Calls Tryz.prog 141 #[.agg #[.int .i64 d, .int .i64 s, .int .i64 h, .int .i64 k, .int .i64 a], .agg #[.int .i64 d', .int .i64 s', .int .i64 h', .int .i64 k', .int .i64 a']] w fun e w' => e = .returned (.int .i64 (cmpD ⟨d, s, h, k, a⟩ ⟨d', s', h', k', a'⟩)) ∧ Below w.heap.size w w' := by
  obtain ⟨x1, hx1⟩ : ∃ x, cmpI s s' = x := ⟨_, rfl⟩
  obtain ⟨x2, hx2⟩ : ∃ x, cmpI h h' = x := ⟨_, rfl⟩
  obtain ⟨x3, hx3⟩ : ∃ x, cmpI k k' = x := ⟨_, rfl⟩
  have e := Lib.hid (show cmpD ⟨d, s, h, k, a⟩ ⟨d', s', h', k', a'⟩ = orL [x1, x2, x3] by unfold cmpD; simp only [hx1, hx2, hx3])
  have HX1 := Lib.hid hx1
  have HX2 := Lib.hid hx2
  have HX3 := Lib.hid hx3
  clear hx1 hx2 hx3
  go_enter Tryz.func141, Tryz.ntmps141
  go_wp2
  go_region_held3 (fun w' => w'.cell? ⟨w.heap.size, 1, none⟩ = some (.int .i64 s) ∧ w'.cell? ⟨w.heap.size, 2, none⟩ = some (.int .i64 h) ∧ w'.cell? ⟨w.heap.size, 3, none⟩ = some (.int .i64 k) ∧ w'.cell? ⟨w.heap.size + 1, 1, none⟩ = some (.int .i64 s') ∧ w'.cell? ⟨w.heap.size + 1, 2, none⟩ = some (.int .i64 h') ∧ w'.cell? ⟨w.heap.size + 1, 3, none⟩ = some (.int .i64 k')) (first | go_keep) (first | (go_at_call 136; refine (compare_any _ _ _).mono ?_; (first | rw [HX1.out] | rw [HX2.out] | rw [HX3.out]); rintro e w' ⟨rfl, rfl⟩) | (go_at_call 135; refine (or_any (fun _ => True) _ [x1, x2, x3] _ (sl3 ?_ ?_ ?_) (by simp)).mono ?_; (· exact (World.cell?_alloc_at _ _ _ _ (by simp)).trans rfl); (· exact (World.cell?_alloc_at _ _ _ _ (by simp)).trans rfl); (· exact (World.cell?_alloc_at _ _ _ _ (by simp)).trans rfl); rintro e w' ⟨rfl, rfl⟩))
  go_wp2
  go_ret
  exact ⟨ret_int e.out.symm, bal (bdr (bal (bal brefl _) _)) _⟩
theorem stpend1_any (d s h k a : Int) (w : World) :
    Calls Tryz.prog 139 #[.agg #[.int .i64 d, .int .i64 s, .int .i64 h, .int .i64 k, .int .i64 a]] w fun e w' => e = .returned (.bool (h == 1000)) ∧ Below w.heap.size w w' := by
  go_enter Tryz.func139, Tryz.ntmps139
  go_wp2
  go_ret
  exact ⟨ret_bool (by first | rfl | simp), bal brefl _⟩
end Go.Proofs.YthhoaefadfeknaaGreat
namespace Go.Proofs.YthhoaefadfeknaaGreat
open Go.RowKit
set_option linter.unusedVariables false
set_option linter.unusedSimpArgs false
def cpS (x : Sec) (n : Int) : Int := cpN x.id x.un x.is x.ma x.ra x.ev n
/-- the security of a strip -/
def sdS (R : Reg) (s : Int) : Sec := (findS R.secs s).getD ⟨0, 0, 0, 0, 0, 0, false⟩
def sdA (R : Reg) (x : Stp) : Int := if x.p = true then x.a else cpS (sdS R x.s) x.a
def sdD (R : Reg) (day : Int) (x : Stp) : List Due := if x.d = day then (if 0 < sdA R x then [⟨day, x.s, x.h, if x.p = true then 2 else 1, sdA R x⟩] else []) else []
def alD (R : Reg) (L : List Stp) (day : Int) : List Due := ((pdL R day).filter fun x => !(x.h == 1000)) ++ L.flatMap (sdD R day)
/-- what is due is laid to the one ahead, if they are alike -/
def mgD (out : List Due) (x : Due) : List Due :=
  match out.getLast? with
  | none => [x]
  | some y => if cmpD y x = 0 then out.dropLast ++ [⟨y.day, y.s, y.h, y.kind, wrap64 (y.a + x.a)⟩] else out ++ [x]
def qdE (R : Reg) (L : List Stp) (day : Int) : Int := if vkE R L = 0 then pdE R day else vkE R L
def qdL (R : Reg) (L : List Stp) (day : Int) : List Due := if qdE R L day = 0 then (srt (ltz cmpD) (alD R L day)).foldl mgD [] else []
theorem sdD_len (R : Reg) (day : Int) (x : Stp) : (sdD R day x).length ≤ 1 := by
  unfold sdD
  split
  · split <;> simp
  · simp
theorem sdD_flat (R : Reg) (day : Int) : ∀ L : List Stp, (L.flatMap (sdD R day)).length ≤ L.length
  | [] => by simp
  | x :: L => by
    have h1 := sdD_len R day x
    have h2 := sdD_flat R day L
    simp only [List.flatMap_cons, List.length_append, List.length_cons]
    omega
theorem mgD_nil (x : Due) : mgD [] x = [x] := rfl
theorem mgD_snoc (A : List Due) (y x : Due) : mgD (A ++ [y]) x = if cmpD y x = 0 then A ++ [⟨y.day, y.s, y.h, y.kind, wrap64 (y.a + x.a)⟩] else (A ++ [y]) ++ [x] := by
  unfold mgD
  rw [List.getLast?_append]
  simp
theorem mgD_len (O : List Due) (x : Due) : (mgD O x).length ≤ O.length + 1 := by
  rcases List.eq_nil_or_concat O with rfl | ⟨A, y, rfl⟩
  · simp [mgD_nil]
  · rw [List.concat_eq_append, mgD_snoc]
    split <;> simp
theorem mgF_snoc {M : List Due} {k : Nat} {x : Due} (h : M[k]? = some x) : (M.take (k + 1)).foldl mgD [] = mgD ((M.take k).foldl mgD []) x := by
  rw [take_snocZ h, List.foldl_append]; rfl
theorem mgF_len (M : List Due) : ∀ k, ((M.take k).foldl mgD []).length ≤ k := by
  intro k
  induction k with
  | zero => simp
  | succ k ih =>
    cases h : M[k]? with
    | none =>
      have hl := List.getElem?_eq_none_iff.1 h
      rw [show M.take (k + 1) = M.take k by rw [List.take_of_length_le (by omega), List.take_of_length_le hl]]
      omega
    | some x =>
      rw [mgF_snoc h]
      have := mgD_len ((M.take k).foldl mgD []) x
      omega
theorem flatD_set (A : List Due) (d s h k a b : Int) (q : Nat) (hq : A.length = q) : (flatE encDue (A ++ [⟨d, s, h, k, a⟩])).set (q * 5 + 4) (.int .i64 b) = flatE encDue (A ++ [⟨d, s, h, k, b⟩]) := by
  have hl : (flatE encDue A).length = q * 5 := by rw [flatE_length encDue_len, hq]
  have e : ∀ b, flatE encDue (A ++ [⟨d, s, h, k, b⟩]) = flatE encDue A ++ [.int .i64 d, .int .i64 s, .int .i64 h, .int .i64 k, .int .i64 b] := fun b => by simp [flatE, encDue]
  rw [e, e, List.set_append_right _ _ (by omega), hl, Nat.add_sub_cancel_left]
  rfl
theorem sdD_snoc {R : Reg} {day : Int} {L : List Stp} {k : Nat} {x : Stp} (h : L[k]? = some x) : (L.take (k + 1)).flatMap (sdD R day) = (L.take k).flatMap (sdD R day) ++ sdD R day x := by
  rw [take_snocZ h, List.flatMap_append]; simp
theorem sdD_no {R : Reg} {day : Int} {x : Stp} (h : x.d ≠ day) : sdD R day x = [] := by unfold sdD; rw [if_neg h]
theorem sdD_zero {R : Reg} {day : Int} {x : Stp} (h : ¬ 0 < sdA R x) : sdD R day x = [] := by unfold sdD; split <;> simp [h]
theorem sdD_yes {R : Reg} {day : Int} {x : Stp} (h : x.d = day) (ha : 0 < sdA R x) : sdD R day x = [⟨day, x.s, x.h, if x.p = true then 2 else 1, sdA R x⟩] := by unfold sdD; rw [if_pos h, if_pos ha]
/-- register.Find, whatever it finds -/
theorem rfind_get (P : Nat → Prop) (vs vh vm : Value) (R : Reg) (x : Int) (id un is ma ra ev : Int) (ix : Bool) (w : World) (hr : RgIn P w vs vh vm R) (hlen : R.secs.length ≤ 1000000) (hs : sdS R x = ⟨id, un, is, ma, ra, ev, ix⟩) :
    Calls Tryz.prog 95 #[.agg #[vs, vh, vm], .int .i64 x] w fun e w' => ∃ b, e = .returned (.tuple #[.agg #[.int .i64 id, .int .i64 un, .int .i64 is, .int .i64 ma, .int .i64 ra, .int .i64 ev, .bool ix], .bool b]) ∧ Below w.heap.size w w' := by
  unfold sdS at hs
  cases hf : findS R.secs x with
  | none =>
    rw [hf] at hs
    simp only [Option.getD_none, Sec.mk.injEq] at hs
    obtain ⟨rfl, rfl, rfl, rfl, rfl, rfl, rfl⟩ := hs
    exact (rfind_no P _ _ _ R x w hr hlen hf).mono fun _ _ h => ⟨_, h.1, h.2⟩
  | some s =>
    rw [hf] at hs
    simp only [Option.getD_some] at hs
    subst hs
    exact (rfind_yes P _ _ _ R x id un is ma ra ev ix w hr hlen hf).mono fun _ _ h => ⟨_, h.1, h.2⟩
end Go.Proofs.YthhoaefadfeknaaGreat
namespace Go.Proofs.YthhoaefadfeknaaGreat
open Go.RowKit
set_option linter.unusedVariables false
set_option linter.unusedSimpArgs false
theorem pdL_len2 {R : Reg} (hok : RgOk R) (day : Int) : (pdL R day).length ≤ 1600 := by
  unfold pdL
  split
  · have h1 := flat_len (pdF R day) (pdF_len R day) (rgAt R day)
    have h2 := at_len hok day
    omega
  · simp
set_option maxHeartbeats 16000000 in
set_option maxRecDepth 100000 in
theorem stpending_any (P : Nat → Prop) (vs vh vm vt : Value) (R : Reg) (L : List Stp) (day : Int) (w : World) (hv : VkIn P w vs vh vm vt R L) :
    Calls Tryz.prog 71 #[.agg #[vs, vh, vm, vt], .int .i64 day] w (PdW (qdL R L day) (qdE R L day) w) := by
  obtain ⟨a0, n0, c0, rfl, -, -, -⟩ := hv.rg.S.shape
  obtain ⟨a1, n1, c1, rfl, -, -, -⟩ := hv.rg.H.shape
  obtain ⟨a2, n2, c2, rfl, -, -, -⟩ := hv.rg.M.shape
  obtain ⟨a3, n, c3, rfl, hnL, -, -⟩ := hv.st.shape
  have KC := Lib.hid (fun U (hU : Below w.heap.size w U) => vcheck_any P _ _ _ _ R L U (hv.below hU))
  have KP := Lib.hid (fun U (hU : Below w.heap.size w U) => pending_any P _ _ _ R day U (hv.rg.below hU) hv.lS hv.lH hv.lM)
  obtain ⟨E, hE⟩ : ∃ E, vkE R L = E := ⟨_, rfl⟩
  obtain ⟨F, hF⟩ : ∃ F, pdE R day = F := ⟨_, rfl⟩
  rw [hE] at KC
  rw [hF] at KP
  have HE := Lib.hid hE
  have HF := Lib.hid hF
  have HV := Lib.hid hv
  have HNL := Lib.hid hnL
  clear hE hF hv hnL
  by_cases h1 : E = 0
  case neg =>
    have e1 := Lib.hid (show qdE R L day = E by unfold qdE; rw [HE.out, if_neg h1])
    have e2 := Lib.hid (show qdL R L day = [] by unfold qdL; rw [e1.out, if_neg h1])
    have g1 : (E != 0) = true := by simpa using h1
    have g2 : (E == 0) = false := by simpa using h1
    go_enter Tryz.func71, Tryz.ntmps71
    go_wp2_with fail
    refine (KC.out _ (bal brefl _)).mono ?_
    rintro e w1 ⟨rfl, hb1⟩
    go_wp2
    go_ret2
    exact pdW_nil e2.out e1.out (bup (bal brefl _) hb1)
  subst h1
  have hvk := vkE_iff.1 HE.out
  by_cases h2 : F = 0
  case neg =>
    have e1 := Lib.hid (show qdE R L day = F by unfold qdE; rw [HE.out, if_pos rfl]; exact HF.out)
    have e2 := Lib.hid (show qdL R L day = [] by unfold qdL; rw [e1.out, if_neg h2])
    have g1 : (F != 0) = true := by simpa using h2
    have g2 : (F == 0) = false := by simpa using h2
    clear hvk
    go_enter Tryz.func71, Tryz.ntmps71
    go_wp2_with fail
    refine (KC.out _ (bal brefl _)).mono ?_
    rintro e w1 ⟨rfl, hb1⟩
    have r0 : w1.cell? ⟨w.heap.size, 0, none⟩ = some (.slice a0 n0 c0) := boxed_cell hb1 0 rfl
    have r1 : w1.cell? ⟨w.heap.size, 1, none⟩ = some (.slice a1 n1 c1) := boxed_cell hb1 1 rfl
    have r2 : w1.cell? ⟨w.heap.size, 2, none⟩ = some (.slice a2 n2 c2) := boxed_cell hb1 2 rfl
    have HB1 := Lib.hid (bup (bal brefl _) hb1)
    clear hb1
    go_wp2_with fail
    refine (KP.out _ HB1.out).mono ?_
    rintro e w2 ⟨v2, rfl, ho2, hb2⟩
    go_wp2
    go_ret2
    exact pdW_nil e2.out e1.out (bup HB1.out hb2)
  subst h2
  have e1 := Lib.hid (show qdE R L day = 0 by unfold qdE; rw [HE.out, if_pos rfl]; exact HF.out)
  obtain ⟨M0, hM0⟩ : ∃ M, (pdL R day).filter (fun x => !(x.h == 1000)) = M := ⟨_, rfl⟩
  obtain ⟨D, hD⟩ : ∃ M, pdL R day = M := ⟨_, rfl⟩
  have hDl : D.length ≤ 1600 := by rw [← hD]; exact pdL_len2 hvk.rg day
  have hM0l : M0.length ≤ 1600 := by
    rw [← hM0, hD]; exact Nat.le_trans (List.length_filter_le _ _) hDl
  have hLl : L.length ≤ 400 := hvk.ln
  rw [hD] at KP hM0
  have HM0 := Lib.hid hM0
  obtain ⟨T, hT⟩ : ∃ T, M0 ++ L.flatMap (sdD R day) = T := ⟨_, rfl⟩
  have hTl : T.length ≤ 2000 := by
    have := sdD_flat R day L
    rw [← hT, List.length_append]; omega
  obtain ⟨M, hM⟩ : ∃ M, srt (ltz cmpD) T = M := ⟨_, rfl⟩
  have hMl : M.length ≤ 2000 := by rw [← hM, srt_length]; exact hTl
  have hMT : M.length = T.length := by rw [← hM, srt_length]
  have e2 := Lib.hid (show qdL R L day = M.foldl mgD [] by unfold qdL alD; rw [e1.out, if_pos rfl, hD, hM0, hT, hM])
  have HT := Lib.hid hT
  have HM := Lib.hid hM
  have HMT := Lib.hid hMT
  have eg : ∀ args w, (callFunc 139 args).run Tryz.prog w = .ok (.enter 139 args) w := enters_of Tryz.func139 (by kernel_rfl) rfl
  have eg2 : ∀ args w, (callFunc 141 args).run Tryz.prog w = .ok (.enter 141 args) w := enters_of Tryz.func141 (by kernel_rfl) rfl
  have KD := Lib.hid (fun (U : World) (base : Nat) (v : Value) (ho : U.ownsRow base 106 5 v D.length (flatE encDue D)) =>
    dlfDue_any 139 #[] (fun x => x.h == 1000) (fun _ => True) base v D U eg (fun W _ x _ => stpend1_any x.day x.s x.h x.kind x.a W) (fun _ _ => trivial) ho (by omega))
  have KS := Lib.hid (fun (U : World) (base : Nat) (v : Value) (hb : base ≤ U.heap.size) (ho : U.ownsRow base 106 5 v T.length (flatE encDue T)) =>
    sortDue_own 141 #[] cmpD (fun _ => True) base v T U eg2 (fun W _ x y _ _ => stdue_any x.day x.s x.h x.kind x.a y.day y.s y.h y.kind y.a W) cmpD_wk (fun _ _ => trivial) hb ho (by omega))
  rw [hM0] at KD
  rw [hM] at KS
  obtain ⟨i1, hi, hz0, hz1, hz2⟩ := info_parts infoDue
  rw [e1.out, e2.out]
  clear hvk hM0 hD hT hM hMT eg eg2
  go_enter Tryz.func71, Tryz.ntmps71
  go_wp2_with fail
  refine (KC.out _ (bal brefl _)).mono ?_
  rintro e w1 ⟨rfl, hb1⟩
  have r0 : w1.cell? ⟨w.heap.size, 0, none⟩ = some (.slice a0 n0 c0) := boxed_cell hb1 0 rfl
  have r1 : w1.cell? ⟨w.heap.size, 1, none⟩ = some (.slice a1 n1 c1) := boxed_cell hb1 1 rfl
  have r2 : w1.cell? ⟨w.heap.size, 2, none⟩ = some (.slice a2 n2 c2) := boxed_cell hb1 2 rfl
  have r3 : w1.cell? ⟨w.heap.size, 3, none⟩ = some (.slice a3 n c3) := boxed_cell hb1 3 rfl
  have HB1 := Lib.hid (bup (bal brefl _) hb1)
  have zw1 : w.heap.size < w1.heap.size := World.block_lt_of_cell? _ _ r0
  clear hb1
  go_wp2_with fail
  refine (KP.out _ HB1.out).mono ?_
  rintro e w2 ⟨v2, rfl, ho2, hb2⟩
  replace r0 := keepB hb2 r0
  replace r1 := keepB hb2 r1
  replace r2 := keepB hb2 r2
  replace r3 := keepB hb2 r3
  have HB2 := Lib.hid hb2
  have HO2 := Lib.hid ho2
  clear hb2 ho2
  go_wp2_with fail
  refine (KD.out _ _ _ HO2.out).mono ?_
  rintro e w3 ⟨v3, rfl, ho3, hg3⟩
  have hb3 : Below w1.heap.size w1 w3 := HB2.out.grown hg3 HB2.out.size (fun q hq => (HO2.out.lt q hq).1)
  have HB3 := Lib.hid hb3
  have HO3 := Lib.hid ho3
  have hk3 : ∀ o, w3.cell? ⟨w.heap.size, o, none⟩ = w1.cell? ⟨w.heap.size, o, none⟩ := fun o => hb3.cell (p := ⟨w.heap.size, o, none⟩) zw1
  have hk2 : ∀ o, w2.cell? ⟨w.heap.size, o, none⟩ = w1.cell? ⟨w.heap.size, o, none⟩ := fun o => HB2.out.cell (p := ⟨w.heap.size, o, none⟩) zw1
  replace r0 := (hk3 0).trans ((hk2 0).symm.trans r0)
  replace r1 := (hk3 1).trans ((hk2 1).symm.trans r1)
  replace r2 := (hk3 2).trans ((hk2 2).symm.trans r2)
  replace r3 := (hk3 3).trans ((hk2 3).symm.trans r3)
  have zw3 : w1.heap.size ≤ w3.heap.size := hb3.size
  have HR := Lib.hid (And.intro r0 (And.intro r1 (And.intro r2 r3)))
  have HLL := Lib.hid hLl
  have HNM := Lib.hid hM0l
  clear hk2 hk3 hb3 hg3 ho3 r0 r1 r2 hLl hM0l
  go_wp2
  go_loopw [7, 38] (fun v iv wr => ∃ k : Nat, k ≤ n ∧ iv = .int .i64 k ∧ wr.ownsRow w1.heap.size 106 5 v (M0 ++ (L.take k).flatMap (sdD R day)).length (flatE encDue (M0 ++ (L.take k).flatMap (sdD R day))) ∧ Below w1.heap.size w3 wr) (fun _ iv _ => n - (intOf iv).toNat)
  case atStart => exact ⟨0, by omega, rfl, by simpa using HO3.out, Below.refl _ _⟩
  case round =>
    obtain ⟨k, hk, rfl, hown, hbr⟩ := hrel
    have zr := hbr.size
    have HBR := Lib.hid hbr
    have HBr := Lib.hid (HB3.out.trans hbr)
    by_cases hlt : k < n
    · obtain ⟨bb, off, s, d, p, u, a, rfl, -, hbl, hx, k0, k1, k2, k3, k4⟩ := (HV.out.st.below (bup HB1.out HBr.out)).stp hlt
      have hkz : (k : Int) < (n : Int) := by omega
      have hsn : M0 ++ (L.take (k + 1)).flatMap (sdD R day) = (M0 ++ (L.take k).flatMap (sdD R day)) ++ sdD R day ⟨s, d, p, u, a⟩ := by rw [sdD_snoc hx, List.append_assoc]
      have htl : (M0 ++ (L.take k).flatMap (sdD R day)).length ≤ 1600 + k := by
        have h1 := sdD_flat R day (L.take k)
        have h2 : (L.take k).length ≤ k := by rw [List.length_take]; omega
        have h3 := HNM.out
        rw [List.length_append]; omega
      obtain ⟨O, hO⟩ : ∃ O, M0 ++ (L.take k).flatMap (sdD R day) = O := ⟨_, rfl⟩
      rw [hO] at hown hsn htl
      have HSN := Lib.hid hsn
      have HO := Lib.hid hown
      have hk400 : k ≤ 400 := by have := HLL.out; have := HNL.out; omega
      clear hown hsn hO hx hbr
      by_cases hd : day = d
      case neg =>
        have HDN := Lib.hid (sdD_no (R := R) (day := day) (x := ⟨s, d, p, u, a⟩) (fun h => hd h.symm))
        have hd1 : (d != day) = true := by simpa using fun h => hd h.symm
        have hd2 : ¬ d = day := fun h => hd h.symm
        go_wp2
        go_roundw
        case rel => exact ⟨k + 1, by omega, by go_num, by rw [HSN.out, HDN.out, List.append_nil]; exact ownsRow_belowZ HO.out (bal brefl _), HBR.out.trans ((Below.refl _ wr).alloc (by omega) _)⟩
        case measure => simp [intOf]; omega
      subst hd
      cases p with
      | true =>
        by_cases ha : 0 < a
        · have HDY := Lib.hid (show sdD R day ⟨s, day, true, u, a⟩ = [⟨day, s, u, 2, a⟩] from sdD_yes rfl ha)
          have HO2' := Lib.hid ((HO.out.alloc (.cells #[.int .i64 s, .int .i64 day, .bool true, .int .i64 u, .int .i64 a] 88)).alloc (.cells #[.int .i64 day, .int .i64 s, .int .i64 u, .int .i64 2, .int .i64 a] 106))
          go_wp2_with (at_builtin; go_must (refine wpList_append_own _ rfl _ _ 62 rfl w1.heap.size 106 i1 (.agg #[.int .i64 0, .int .i64 0, .int .i64 0, .int .i64 0, .int .i64 0]) 5 40 Tryz.underlying62 hi hz0 hz1 hz2 rfl (by decide) _ _ _ rfl (HO2'.out.alloc _) ⟨_, 0, none⟩ 1 1 (encDue ⟨day, s, u, 2, a⟩) rfl rfl (newsDue _ _ (by simp) day s u 2 a) (oneDue _) (by unfold maxLen; omega) (by omega) (by simp; omega) ?_); intro v' w9 hown' hgrow _)
          go_roundw
          case rel => exact ⟨k + 1, by omega, by go_num, by rw [HSN.out, HDY.out, flatE_snoc, List.length_append]; exact hown', HBR.out.trans (((((Below.refl _ wr).alloc (by omega) _).alloc (by simp; omega) _).alloc (by simp; omega) _).grown hgrow (by simp; omega) (fun q hq => (HO2'.out.lt q hq).1))⟩
          case measure => simp [intOf]; omega
        · have HDN := Lib.hid (show sdD R day ⟨s, day, true, u, a⟩ = [] from sdD_zero ha)
          go_wp2
          go_roundw
          case rel => exact ⟨k + 1, by omega, by go_num, by rw [HSN.out, HDN.out, List.append_nil]; exact ownsRow_belowZ HO.out (bal (bal brefl _) _), HBR.out.trans (((Below.refl _ wr).alloc (by omega) _).alloc (by simp; omega) _)⟩
          case measure => simp [intOf]; omega
      | false =>
        obtain ⟨S, hS⟩ : ∃ S, sdS R s = S := ⟨_, rfl⟩
        obtain ⟨id, un, is, ma, ra, ev, ix⟩ := S
        obtain ⟨C, hC⟩ : ∃ C, cpN id un is ma ra ev a = C := ⟨_, rfl⟩
        have hsA : sdA R ⟨s, day, false, u, a⟩ = C := by unfold sdA cpS; simp only; rw [hS]; exact hC
        have KF := Lib.hid (fun U (hU : Below w.heap.size w U) => rfind_get P _ _ _ R s id un is ma ra ev ix U (HV.out.rg.below hU) HV.out.lS hS)
        have KN := Lib.hid (fun U => coupon_any id un is ma ra ev ix a U)
        rw [hC] at KN
        obtain ⟨r0, r1, r2, -⟩ := HR.out
        have HB14 := Lib.hid (bup HB1.out HBr.out)
        have zwr : w.heap.size < wr.heap.size := by omega
        replace r0 : wr.cell? ⟨w.heap.size, 0, none⟩ = some (.slice a0 n0 c0) := ((HBR.out.cell (p := ⟨w.heap.size, 0, none⟩) (by simp only; omega)).trans r0)
        replace r1 : wr.cell? ⟨w.heap.size, 1, none⟩ = some (.slice a1 n1 c1) := ((HBR.out.cell (p := ⟨w.heap.size, 1, none⟩) (by simp only; omega)).trans r1)
        replace r2 : wr.cell? ⟨w.heap.size, 2, none⟩ = some (.slice a2 n2 c2) := ((HBR.out.cell (p := ⟨w.heap.size, 2, none⟩) (by simp only; omega)).trans r2)
        clear hS hC
        go_wp2_with fail
        refine (KF.out _ (bal (bal HB14.out _) _)).mono ?_
        rintro e w4 ⟨bf, rfl, hb4⟩
        have z4 := hb4.size
        simp only [World.size_alloc] at z4
        have x4 : w4.cell? ⟨wr.heap.size, 4, none⟩ = some (.int .i64 a) := (hb4.cell (p := ⟨wr.heap.size, 4, none⟩) (by simp; omega)).trans ((World.cell?_alloc_past _ _ _ (by simp)).trans (World.cell?_alloc_at _ _ _ _ rfl))
        have hB4 : w4.heap[wr.heap.size + 1]? = some (.cells #[.int .i64 day, .int .i64 s, .int .i64 u, .int .i64 2, .int .i64 a] 106 (0, 0)) := (hb4.block _ (by simp)).trans (heap_at (by simp))
        have hbw4 : Below wr.heap.size wr w4 := bup (bal (bal brefl _) _) hb4
        have zl4 : wr.heap.size + 1 < w4.heap.size := by omega
        have zk4 : wr.heap.size < w4.heap.size := by omega
        have y3 : w4.cell? ⟨wr.heap.size + 1, 3, none⟩ = some (.int .i64 2) := cell_heap hB4 rfl
        have yf : w4.frozen? ⟨wr.heap.size + 1, 3, none⟩ = false := frozen_of_row w4 _ _ _ _ hB4
        clear hb4 k0 k1 k2 k3 k4
        go_upto_region 16 with fail
        obtain ⟨W5, hW5⟩ : ∃ W, W = (w4.setCell ⟨wr.heap.size + 1, 3, none⟩ (.int .i64 1)).alloc (.cells #[.int .i64 id, .int .i64 un, .int .i64 is, .int .i64 ma, .int .i64 ra, .int .i64 ev, .bool ix] 26 (0, 0)) := ⟨_, rfl⟩
        rw [← hW5]
        have hb45 : Below (wr.heap.size + 1) w4 W5 := by rw [hW5]; exact ((Below.refl _ w4).setCell (by simp) _).alloc (by simp [World.setCell]; omega) _
        have hB5 : W5.heap[wr.heap.size + 1]? = some (.cells #[.int .i64 day, .int .i64 s, .int .i64 u, .int .i64 1, .int .i64 a] 106 (0, 0)) := by
          have e0 := heap_setCell_same w4 _ 3 _ _ (.int .i64 1) hB4
          rw [hW5]
          exact (Below.block ((Below.refl (w4.setCell ⟨wr.heap.size + 1, 3, none⟩ (.int .i64 1)).heap.size _).alloc (Nat.le_refl _) _) _ (by simp [World.setCell]; omega)).trans e0
        have hbw5 : Below wr.heap.size wr W5 := hbw4.trans (hb45.mono (by omega))
        have x5 : W5.cell? ⟨wr.heap.size, 4, none⟩ = some (.int .i64 a) := (hb45.cell (p := ⟨wr.heap.size, 4, none⟩) (by simp)).trans x4
        have zs5 : W5.heap.size = w4.heap.size + 1 := by rw [hW5]; simp [World.setCell]
        have c0 : W5.cell? ⟨w4.heap.size, 0, none⟩ = some (.int .i64 id) := by rw [hW5]; exact World.cell?_alloc_at _ _ _ _ (by simp [World.setCell])
        have c1 : W5.cell? ⟨w4.heap.size, 1, none⟩ = some (.int .i64 un) := by rw [hW5]; exact World.cell?_alloc_at _ _ _ _ (by simp [World.setCell])
        have c2 : W5.cell? ⟨w4.heap.size, 2, none⟩ = some (.int .i64 is) := by rw [hW5]; exact World.cell?_alloc_at _ _ _ _ (by simp [World.setCell])
        have c3 : W5.cell? ⟨w4.heap.size, 3, none⟩ = some (.int .i64 ma) := by rw [hW5]; exact World.cell?_alloc_at _ _ _ _ (by simp [World.setCell])
        have c4 : W5.cell? ⟨w4.heap.size, 4, none⟩ = some (.int .i64 ra) := by rw [hW5]; exact World.cell?_alloc_at _ _ _ _ (by simp [World.setCell])
        have c5 : W5.cell? ⟨w4.heap.size, 5, none⟩ = some (.int .i64 ev) := by rw [hW5]; exact World.cell?_alloc_at _ _ _ _ (by simp [World.setCell])
        have c6 : W5.cell? ⟨w4.heap.size, 6, none⟩ = some (.bool ix) := by rw [hW5]; exact World.cell?_alloc_at _ _ _ _ (by simp [World.setCell])
        clear hW5 x4 y3 yf hB4 hbw4 hb45
        go_wp2_with fail
        refine (KN.out _).mono ?_
        rintro e w6 ⟨rfl, hb6⟩
        have hB6 := (hb6.block _ (show wr.heap.size + 1 < W5.heap.size by omega)).trans hB5
        have hbw6 : Below wr.heap.size wr w6 := bup hbw5 hb6
        have y4 : w6.cell? ⟨wr.heap.size + 1, 4, none⟩ = some (.int .i64 a) := cell_heap hB6 rfl
        have yf : w6.frozen? ⟨wr.heap.size + 1, 4, none⟩ = false := frozen_of_row w6 _ _ _ _ hB6
        have zs6 : wr.heap.size + 1 < w6.heap.size := by have := hb6.size; omega
        clear hb6 hB5 hbw5 x5 c0 c1 c2 c3 c4 c5 c6
        go_upto_region 17 with fail
        obtain ⟨W7, hW7⟩ : ∃ W, W = w6.setCell ⟨wr.heap.size + 1, 4, none⟩ (.int .i64 C) := ⟨_, rfl⟩
        rw [← hW7]
        have hB7 : W7.heap[wr.heap.size + 1]? = some (.cells #[.int .i64 day, .int .i64 s, .int .i64 u, .int .i64 1, .int .i64 C] 106 (0, 0)) := by rw [hW7]; exact heap_setCell_same w6 _ 4 _ _ (.int .i64 C) hB6
        have hbw7 : Below wr.heap.size wr W7 := by rw [hW7]; exact hbw6.setCell (by simp) _
        have q0 : W7.cell? ⟨wr.heap.size + 1, 0, none⟩ = some (.int .i64 day) := cell_heap hB7 rfl
        have q1 : W7.cell? ⟨wr.heap.size + 1, 1, none⟩ = some (.int .i64 s) := cell_heap hB7 rfl
        have q2 : W7.cell? ⟨wr.heap.size + 1, 2, none⟩ = some (.int .i64 u) := cell_heap hB7 rfl
        have q3 : W7.cell? ⟨wr.heap.size + 1, 3, none⟩ = some (.int .i64 1) := cell_heap hB7 rfl
        have q4 : W7.cell? ⟨wr.heap.size + 1, 4, none⟩ = some (.int .i64 C) := cell_heap hB7 rfl
        have zs7 : wr.heap.size + 1 < W7.heap.size := (Array.getElem?_eq_some_iff.1 hB7).1
        have HBW7 := Lib.hid hbw7
        have HO7 := Lib.hid (ownsRow_belowZ HO.out hbw7)
        clear hB6 hbw6 y4 yf hW7 hB7 hbw7
        by_cases ha : 0 < C
        · have HDY := Lib.hid (show sdD R day ⟨s, day, false, u, a⟩ = [⟨day, s, u, 1, C⟩] from (sdD_yes (x := ⟨s, day, false, u, a⟩) rfl (by rw [hsA]; exact ha)).trans (by rw [hsA]; rfl))
          clear hsA
          go_wp2_with (at_builtin; go_must (refine wpList_append_own _ rfl _ _ 62 rfl w1.heap.size 106 i1 (.agg #[.int .i64 0, .int .i64 0, .int .i64 0, .int .i64 0, .int .i64 0]) 5 40 Tryz.underlying62 hi hz0 hz1 hz2 rfl (by decide) _ _ _ rfl (HO7.out.alloc _) ⟨_, 0, none⟩ 1 1 (encDue ⟨day, s, u, 1, C⟩) rfl rfl (newsDue _ _ (by simp) day s u 1 C) (oneDue _) (by unfold maxLen; omega) (by omega) (by simp; omega) ?_); intro v' w9 hown' hgrow _)
          go_roundw
          case rel => exact ⟨k + 1, by omega, by go_num, by rw [HSN.out, HDY.out, flatE_snoc, List.length_append]; exact hown', HBR.out.trans (((HBW7.out.mono (by omega)).alloc (by omega) _).grown hgrow (by simp; omega) (fun q hq => (HO7.out.lt q hq).1))⟩
          case measure => simp [intOf]; omega
        · have HDN := Lib.hid (show sdD R day ⟨s, day, false, u, a⟩ = [] from sdD_zero (by rw [hsA]; exact ha))
          clear hsA
          go_wp2
          go_roundw
          case rel => exact ⟨k + 1, by omega, by go_num, by rw [HSN.out, HDN.out, List.append_nil]; exact HO7.out, HBR.out.trans (HBW7.out.mono (by omega))⟩
          case measure => simp [intOf]; omega
    · obtain rfl : k = n := by omega
      clear hlt
      have hT4 : M0 ++ (L.take k).flatMap (sdD R day) = T := by rw [List.take_of_length_le (by have := HNL.out; omega)]; exact HT.out
      rw [hT4] at hown
      have HO4 := Lib.hid hown
      clear hT4 hown hbr
      go_wp2_with fail
      refine (KS.out _ _ _ (by omega) HO4.out).mono ?_
      rintro e w4 ⟨rfl, ho4, hb4⟩
      have HO5 := Lib.hid (show w4.ownsRow w1.heap.size 106 5 u7 M.length (flatE encDue M) by rw [HMT.out]; exact ho4)
      have HB4 := Lib.hid (HB3.out.trans (HBR.out.trans hb4))
      have z4 : w1.heap.size ≤ w4.heap.size := HB4.out.size
      clear ho4 hb4
      obtain ⟨m, hm⟩ : ∃ m, M.length = m := ⟨_, rfl⟩
      have hm2 := HMT.out
      rw [hm] at HO5 hMl hm2
      have HSM := Lib.hid (Sl.own encDue_len HO5.out hm (P := fun _ => True) (fun _ _ => trivial))
      have HMM := Lib.hid hm
      obtain ⟨av, cv, rfl⟩ := own_sl HO5.out
      clear hm hm2
      go_wp2
      go_loopw [14, 86] (fun v iv wr => ∃ k : Nat, k ≤ m ∧ iv = .int .i64 k ∧ wr.ownsRow w4.heap.size 106 5 v ((M.take k).foldl mgD []).length (flatE encDue ((M.take k).foldl mgD [])) ∧ Below w4.heap.size w4 wr) (fun _ iv _ => m - (intOf iv).toNat)
      case atStart => exact ⟨0, by omega, rfl, World.ownsRow_nil _ _ _ _, brefl⟩
      case round =>
        obtain ⟨k, hk, rfl, hown, hbr⟩ := hrel
        have zr := hbr.size
        have HBR2 := Lib.hid hbr
        by_cases hlt : k < m
        · obtain ⟨bb, off, xd, xs, xh, xk, xa, rfl, -, hbl, hx, k0, k1, k2, k3, k4⟩ := (HSM.out.below hbr).due hlt
          have hkz : (k : Int) < (m : Int) := by omega
          have hsn := mgF_snoc hx
          have hol := mgF_len M k
          obtain ⟨O, hO⟩ : ∃ O, (M.take k).foldl mgD [] = O := ⟨_, rfl⟩
          rw [hO] at hown hsn hol
          have HSN := Lib.hid hsn
          clear hsn hO hx hbr
          rcases List.eq_nil_or_concat O with hO0 | ⟨A, y, hO1⟩
          · subst hO0
            simp only [List.length_nil] at hown
            obtain ⟨ao, cc, rfl⟩ := own_sl hown
            have HO := Lib.hid hown
            clear hown
            go_upto_region 26 with fail
            obtain ⟨W5, hW5⟩ : ∃ W, W = wr.alloc (.cells #[.int .i64 xd, .int .i64 xs, .int .i64 xh, .int .i64 xk, .int .i64 xa] 106 (0, 0)) := ⟨_, rfl⟩
            rw [← hW5]
            have hb5 : Below wr.heap.size wr W5 := by rw [hW5]; exact bal brefl _
            have hB5 : W5.heap[wr.heap.size]? = some (.cells #[.int .i64 xd, .int .i64 xs, .int .i64 xh, .int .i64 xk, .int .i64 xa] 106 (0, 0)) := by rw [hW5]; exact heap_at (by simp)
            clear hW5 k0 k1 k2 k3 k4
            (refine wp_region_up (by kernel_rfl) (by kernel_rfl) ?_); (repeat (go_big_quiet_step ((fail)))); (refine wpQuiet_nil ?_); (rintro w6 ⟨⟨_, hb6⟩, rfl⟩)
            have hB6 := (hb6.block _ (Array.getElem?_eq_some_iff.1 hB5).1).trans hB5
            have q0 : w6.cell? ⟨wr.heap.size, 0, none⟩ = some (.int .i64 xd) := cell_heap hB6 rfl
            have q1 : w6.cell? ⟨wr.heap.size, 1, none⟩ = some (.int .i64 xs) := cell_heap hB6 rfl
            have q2 : w6.cell? ⟨wr.heap.size, 2, none⟩ = some (.int .i64 xh) := cell_heap hB6 rfl
            have q3 : w6.cell? ⟨wr.heap.size, 3, none⟩ = some (.int .i64 xk) := cell_heap hB6 rfl
            have q4 : w6.cell? ⟨wr.heap.size, 4, none⟩ = some (.int .i64 xa) := cell_heap hB6 rfl
            have zs6 : wr.heap.size < w6.heap.size := (Array.getElem?_eq_some_iff.1 hB6).1
            have HBW6 := Lib.hid (bup hb5 hb6)
            have HO6 := Lib.hid (ownsRow_belowZ HO.out HBW6.out)
            clear hb5 hB5 hb6 hB6
            go_wp2_with (at_builtin; go_must (refine wpList_append_own _ rfl _ _ 62 rfl w4.heap.size 106 i1 (.agg #[.int .i64 0, .int .i64 0, .int .i64 0, .int .i64 0, .int .i64 0]) 5 40 Tryz.underlying62 hi hz0 hz1 hz2 rfl (by decide) _ _ _ rfl (HO6.out.alloc _) ⟨_, 0, none⟩ 1 1 (encDue ⟨xd, xs, xh, xk, xa⟩) rfl rfl (newsDue _ _ (by simp) xd xs xh xk xa) (oneDue _) (by unfold maxLen; omega) (by omega) (by simp; omega) ?_); intro v' w9 hown' hgrow _)
            go_roundw
            case rel => exact ⟨k + 1, by omega, by go_num, by rw [HSN.out, mgD_nil]; simpa [flatE] using hown', HBR2.out.trans (((HBW6.out.mono zr).alloc (by omega) _).grown hgrow (by simp; omega) (fun q hq => (HO6.out.lt q hq).1))⟩
            case measure => simp [intOf]; omega
          · rw [List.concat_eq_append] at hO1
            subst hO1
            obtain ⟨yd, ys, yh, yk, ya⟩ := y
            obtain ⟨j, hj⟩ : ∃ j, A.length = j := ⟨_, rfl⟩
            have hNj : (A ++ [(⟨yd, ys, yh, yk, ya⟩ : Due)]).length = j + 1 := by simp [hj]
            rw [hNj] at hown hol
            obtain ⟨g, cap, rest, rfl, hbg, hg, hnc, hcm, hxl, hrl⟩ := own_whole hown (by omega)
            unfold maxLen at hcm
            have hrow : RowZ 106 5 encDue w4.heap.size g (j + 1) cap (A ++ [⟨yd, ys, yh, yk, ya⟩]) wr := ⟨hown, hNj⟩
            have hjy : (A ++ [(⟨yd, ys, yh, yk, ya⟩ : Due)])[j]? = some ⟨yd, ys, yh, yk, ya⟩ := by rw [← hj, List.getElem?_append_right (Nat.le_refl _)]; simp
            have l0 := hrow.cell encDue_len (i := 0) hjy rfl
            have l1 := hrow.cell encDue_len (i := 1) hjy rfl
            have l2 := hrow.cell encDue_len (i := 2) hjy rfl
            have l3 := hrow.cell encDue_len (i := 3) hjy rfl
            have l4 := hrow.cell encDue_len (i := 4) hjy rfl
            simp only [Nat.add_zero] at l0
            have lf := hrow.fro (j * 5 + 4)
            obtain ⟨c, hc⟩ : ∃ c, cmpD ⟨yd, ys, yh, yk, ya⟩ ⟨xd, xs, xh, xk, xa⟩ = c := ⟨_, rfl⟩
            have KK := Lib.hid (fun U => stdue_any yd ys yh yk ya xd xs xh xk xa U)
            rw [hc] at KK
            have hmg := mgD_snoc A ⟨yd, ys, yh, yk, ya⟩ ⟨xd, xs, xh, xk, xa⟩
            rw [hc] at hmg
            have HMG := Lib.hid hmg
            have HO := Lib.hid hown
            have HJ := Lib.hid hj
            have hgl := World.block_lt_of_cell? wr _ l4
            simp only at hgl
            have jz : (j : Int) < (m : Int) := by omega
            have ej : ((j + 1 : Nat) : Int) - 1 = (j : Int) := by omega
            have ej2 : (j : Int) + 1 - 1 = (j : Int) := by omega
            have epos : (0 : Int) < (j : Int) + 1 := by omega
            clear hown hg hrow hjy hc hmg hj hNj hxl hrl
            go_upto_region 26 with fail
            obtain ⟨W5, hW5⟩ : ∃ W, W = wr.alloc (.cells #[.int .i64 xd, .int .i64 xs, .int .i64 xh, .int .i64 xk, .int .i64 xa] 106 (0, 0)) := ⟨_, rfl⟩
            rw [← hW5]
            have hb5 : Below wr.heap.size wr W5 := by rw [hW5]; exact bal brefl _
            have hB5 : W5.heap[wr.heap.size]? = some (.cells #[.int .i64 xd, .int .i64 xs, .int .i64 xh, .int .i64 xk, .int .i64 xa] 106 (0, 0)) := by rw [hW5]; exact heap_at (by simp)
            have ul0 := up_cell (keepB hb5 l0)
            have ul1 := up_cell (keepB hb5 l1)
            have ul2 := up_cell (keepB hb5 l2)
            have ul3 := up_cell (keepB hb5 l3)
            have ul4 := up_cell (keepB hb5 l4)
            have ux0 := up_cell (show W5.cell? ⟨wr.heap.size, 0, none⟩ = some (.int .i64 xd) from cell_heap hB5 rfl)
            have ux1 := up_cell (show W5.cell? ⟨wr.heap.size, 1, none⟩ = some (.int .i64 xs) from cell_heap hB5 rfl)
            have ux2 := up_cell (show W5.cell? ⟨wr.heap.size, 2, none⟩ = some (.int .i64 xh) from cell_heap hB5 rfl)
            have ux3 := up_cell (show W5.cell? ⟨wr.heap.size, 3, none⟩ = some (.int .i64 xk) from cell_heap hB5 rfl)
            have ux4 := up_cell (show W5.cell? ⟨wr.heap.size, 4, none⟩ = some (.int .i64 xa) from cell_heap hB5 rfl)
            have zg5 : g < W5.heap.size := by have := hb5.size; omega
            have HL4 := Lib.hid (keepB hb5 l4)
            have HLF := Lib.hid ((hb5.frozen (p := ⟨g, j * 5 + 4, none⟩) hgl).trans lf)
            clear hW5 k0 k1 k2 k3 k4 l0 l1 l2 l3 l4 lf
            (refine wp_region_up (by kernel_rfl) (by kernel_rfl) ?_); (repeat (go_big_quiet_step ((first | (go_at_call 141; refine (KK.out _).mono ?_; exact fun _ _ hh => ⟨hh.1, ⟨_, bup (up_prop _) hh.2⟩, rfl⟩))))); (refine wpQuiet_nil ?_); (rintro w6 ⟨⟨_, hb6⟩, rfl⟩)
            have hB6 := (hb6.block _ (Array.getElem?_eq_some_iff.1 hB5).1).trans hB5
            have zs6 : wr.heap.size < w6.heap.size := (Array.getElem?_eq_some_iff.1 hB6).1
            have HBW6 := Lib.hid (bup hb5 hb6)
            have HO6 := Lib.hid (ownsRow_belowZ HO.out HBW6.out)
            have q4 : w6.cell? ⟨wr.heap.size, 4, none⟩ = some (.int .i64 xa) := cell_heap hB6 rfl
            by_cases hc0 : c = 0
            · subst hc0
              have l4 := keepB hb6 HL4.out
              have lf : w6.frozen? ⟨g, j * 5 + 4, none⟩ = false := (hb6.frozen (p := ⟨g, j * 5 + 4, none⟩) zg5).trans HLF.out
              have hst := World.ownsRow.stored HO6.out (j * 5 + 4) (.int .i64 (wrap64 (ya + xa)))
              rw [flatD_set A yd ys yh yk ya _ j HJ.out] at hst
              obtain ⟨hst1, hst2⟩ := hst
              have HS1 := Lib.hid hst1
              have hbb : Below w4.heap.size wr (w6.setCell ⟨g, j * 5 + 4, none⟩ (.int .i64 (wrap64 (ya + xa)))) := (HBW6.out.mono zr).setCell hbg _
              have HBB := Lib.hid hbb
              have zg6 : g < w6.heap.size := by omega
              clear hst1 hst2 hbb hb5 hB5 hb6 hB6 ul0 ul1 ul2 ul3 ul4 ux0 ux1 ux2 ux3 ux4
              have l4n : ∀ n, (w6.drewN n).cell? ⟨g, j * 5 + 4, none⟩ = some (.int .i64 ya) := fun _ => l4
              have q4n : ∀ n, (w6.drewN n).cell? ⟨wr.heap.size, 4, none⟩ = some (.int .i64 xa) := fun _ => q4
              go_upto_region 27 with fail
              go_region
              go_wp2
              go_roundw
              case rel => exact ⟨k + 1, by omega, by go_num, by rw [HSN.out, HMG.out, if_pos rfl, show (A ++ [(⟨yd, ys, yh, yk, wrap64 (ya + xa)⟩ : Due)]).length = j + 1 by simp [HJ.out]]; exact ownsRow_belowZ HS1.out (bdr brefl), HBR2.out.trans (bdr HBB.out)⟩
              case measure => simp [intOf]; omega
            · have q0 : w6.cell? ⟨wr.heap.size, 0, none⟩ = some (.int .i64 xd) := cell_heap hB6 rfl
              have q1 : w6.cell? ⟨wr.heap.size, 1, none⟩ = some (.int .i64 xs) := cell_heap hB6 rfl
              have q2 : w6.cell? ⟨wr.heap.size, 2, none⟩ = some (.int .i64 xh) := cell_heap hB6 rfl
              have q3 : w6.cell? ⟨wr.heap.size, 3, none⟩ = some (.int .i64 xk) := cell_heap hB6 rfl
              have hc1 : (c == 0) = false := by simpa using hc0
              clear hb5 hB5 hb6 hB6 ul0 ul1 ul2 ul3 ul4 ux0 ux1 ux2 ux3 ux4
              go_wp2_with (at_builtin; go_must (refine wpList_append_own _ rfl _ _ 62 rfl w4.heap.size 106 i1 (.agg #[.int .i64 0, .int .i64 0, .int .i64 0, .int .i64 0, .int .i64 0]) 5 40 Tryz.underlying62 hi hz0 hz1 hz2 rfl (by decide) _ _ _ rfl (HO6.out.alloc _) ⟨_, 0, none⟩ 1 1 (encDue ⟨xd, xs, xh, xk, xa⟩) rfl rfl (newsDue _ _ (by simp) xd xs xh xk xa) (oneDue _) (by unfold maxLen; omega) (by omega) (by simp; omega) ?_); intro v' w9 hown' hgrow _)
              go_roundw
              case rel => exact ⟨k + 1, by omega, by go_num, by rw [HSN.out, HMG.out, if_neg hc0, flatE_snoc, List.length_append, show (A ++ [(⟨yd, ys, yh, yk, ya⟩ : Due)]).length = j + 1 by simp [HJ.out]]; exact hown', HBR2.out.trans (((HBW6.out.mono zr).alloc (by omega) _).grown hgrow (by simp; omega) (fun q hq => (HO6.out.lt q hq).1))⟩
              case measure => simp [intOf]; omega
        · obtain rfl : k = m := by omega
          rw [show M.take k = M from List.take_of_length_le (by have := HMM.out; omega)] at hown
          have HFI := Lib.hid hown
          clear hown hbr
          go_wp2
          go_ret2
          exact ⟨_, rfl, ownsRow_baseZ HFI.out (by have := HB1.out.size; omega), (HB1.out.trans ((HB4.out.trans (HBR2.out.mono HB4.out.size)).mono HB1.out.size))⟩
end Go.Proofs.YthhoaefadfeknaaGreat
