/- the reference's register: move, kind 1. Printed by wip/gen/refe.py. -/
import Derived.Test.YthjaofgdickkaaaGreatRefE
namespace Go.Proofs.YthjaofgdickkaaaGreat
open Go.RowKit
set_option linter.unusedVariables false
set_option linter.unusedSimpArgs false
set_option maxHeartbeats 4000000 in
set_option maxRecDepth 20000 in
theorem fmove_none (P : Nat → Prop) (vs vh vm v : Value) (R : Reg) (L : List Hold) (day num md k s f t a : Int) (w : World) (hr : RgIn P w vs vh vm R) (hS : Sl 3 encHold P w v L) (hlen : R.secs.length ≤ 1000000) (hL0 : L.length ≤ 900000) (hok : HsOk L) (hsec : ∀ s ∈ R.secs, secOk s = true) (hf : findS R.secs s = none) :
    Calls Tryz.prog 280 #[.agg #[vs, vh, vm], v, .int .i64 day, .agg #[.int .i64 num, .int .i64 md, .int .i64 k, .int .i64 s, .int .i64 f, .int .i64 t, .int .i64 a]] w (MovedL (mvE R.secs L day ⟨num, md, k, s, f, t, a⟩) (mvH L ⟨num, md, k, s, f, t, a⟩) w) := by
  obtain ⟨a0, n0, c0, rfl, -, -, -⟩ := hr.S.shape
  obtain ⟨a1, n1, c1, rfl, -, -, -⟩ := hr.H.shape
  obtain ⟨a2, n2, c2, rfl, -, -, -⟩ := hr.M.shape
  obtain ⟨a3, n3, c3, rfl, -, -, -⟩ := hS.shape
  have hL : L.length ≤ 1000000 := by omega
  have HF := Lib.hid (fun W hW => ffind_no P _ _ _ R s W (hr.below (w' := W) hW) hlen hf)
  have hE : mvE R.secs L day ⟨num, md, k, s, f, t, a⟩ = 76 := by simp only [mvE, hf]
  rw [hE]
  clear hE hr hS hok hsec
  go_enter Tryz.func280, Tryz.ntmps280
  go_wp2_with fail
  refine (HF.out _ (bal (bal brefl _) _)).mono ?_
  rintro e w1 ⟨rfl, hb1⟩
  have HB := Lib.hid (bup (bal (bal brefl _) _) hb1)
  clear hb1
  go_wp2
  go_ret2
  exact moved_err rfl (by omega) (bal HB.out _)
set_option maxHeartbeats 4000000 in
set_option maxRecDepth 20000 in
theorem fmove_k1 (P : Nat → Prop) (vs vh vm v : Value) (R : Reg) (L : List Hold) (day num md s f t a : Int) (w : World) (hr : RgIn P w vs vh vm R) (hS : Sl 3 encHold P w v L) (hlen : R.secs.length ≤ 1000000) (hL0 : L.length ≤ 900000) (hok : HsOk L) (hsec : ∀ s ∈ R.secs, secOk s = true) (id un is ma ra ev : Int) (ix : Bool) (hf : findS R.secs s = some ⟨id, un, is, ma, ra, ev, ix⟩) (hf0 : f = 0) :
    Calls Tryz.prog 280 #[.agg #[vs, vh, vm], v, .int .i64 day, .agg #[.int .i64 num, .int .i64 md, .int .i64 1, .int .i64 s, .int .i64 f, .int .i64 t, .int .i64 a]] w (MovedL (mvE R.secs L day ⟨num, md, 1, s, f, t, a⟩) (mvH L ⟨num, md, 1, s, f, t, a⟩) w) := by
  obtain ⟨a0, n0, c0, rfl, -, -, -⟩ := hr.S.shape
  obtain ⟨a1, n1, c1, rfl, -, -, -⟩ := hr.H.shape
  obtain ⟨a2, n2, c2, rfl, -, -, -⟩ := hr.M.shape
  obtain ⟨a3, n3, c3, rfl, -, -, -⟩ := hS.shape
  have hL : L.length ≤ 1000000 := by omega
  subst hf0
  obtain ⟨hu1, hu2⟩ := secOk_un (hsec _ (findS_mem hf).1)
  simp only at hu1 hu2
  have HF := Lib.hid (fun W hW => ffind_yes P _ _ _ R s id un is ma ra ev ix W (hr.below (w' := W) hW) hlen hf)
  have HS := Lib.hid hS
  have HK := Lib.hid hok
  obtain ⟨E, hE⟩ : ∃ E, mvE R.secs L day ⟨num, md, 1, s, 0, t, a⟩ = E := ⟨_, rfl⟩
  obtain ⟨G, hG⟩ : ∃ G, mvH L ⟨num, md, 1, s, 0, t, a⟩ = G := ⟨_, rfl⟩
  rw [hE, hG]
  simp only [mvE, hf] at hE
  have HE := Lib.hid hE
  have HG := Lib.hid hG
  clear hE hG hr hS hok hsec hf
  go_enter Tryz.func280, Tryz.ntmps280
  go_wp2_with fail
  refine (HF.out _ (bal (bal brefl _) _)).mono ?_
  rintro e w1 ⟨rfl, hb1⟩
  have HB := Lib.hid (bup (bal (bal brefl _) _) hb1)
  have hmb := (hb1.block (w.heap.size + 1) (by simp)).trans (heap_at (by simp))
  have z1 := hb1.size
  simp only [World.size_alloc] at z1
  have zx : w.heap.size + 1 < w1.heap.size := by omega
  clear hb1
  have m0 := cell_heap (i := 0) hmb rfl
  have m1 := cell_heap (i := 1) hmb rfl
  have m2 := cell_heap (i := 2) hmb rfl
  have m3 := cell_heap (i := 3) hmb rfl
  have m4 := cell_heap (i := 4) hmb rfl
  have m5 := cell_heap (i := 5) hmb rfl
  have m6 := cell_heap (i := 6) hmb rfl
  have HM := Lib.hid hmb
  clear hmb
  by_cases h1 : md < day
  · go_wp2
    go_ret2
    exact moved_err (HE.out.symm.trans (mvE1_8 (.inl h1))) (by omega) (bal HB.out _)
  by_cases h2 : md < is
  · have d1 : decide (md < day) = false := by simpa using h1
    go_wp2
    go_ret2
    exact moved_err (HE.out.symm.trans (mvE1_8 (.inr (.inl h2)))) (by omega) (bal HB.out _)
  have d1 : decide (md < day) = false := by simpa using h1
  have d2 : decide (md < is) = false := by simpa using h2
  by_cases h3 : ma < md
  · go_wp2
    go_ret2
    exact moved_err (HE.out.symm.trans (mvE1_8 (.inr (.inr (by simpa using h3))))) (by omega) (bal HB.out _)
  have d3 : decide (ma < md) = false := by simpa using h3
  have he2 := HE.out
  rw [mvE1_in h1 h2 (by simpa using h3)] at he2
  have HE2 := Lib.hid he2
  clear he2 HE
  by_cases h4 : a < 1
  · have hf1 := Lib.hid (show E = 79 by rw [← HE2.out, if_neg (fun h => by have e1 : 0 < a := h.1; have e2 : a ≤ 1000000000000 := h.2.1; omega)])
    go_wp2
    go_ret2
    exact moved_err hf1.out (by omega) (bal HB.out _)
  have d4 : decide (a < 1) = false := by simpa using h4
  by_cases h5 : 1000000000000 < a
  · have hf1 := Lib.hid (show E = 79 by rw [← HE2.out, if_neg (fun h => by have e1 : 0 < a := h.1; have e2 : a ≤ 1000000000000 := h.2.1; omega)])
    go_wp2
    go_ret2
    exact moved_err hf1.out (by omega) (bal HB.out _)
  have d5 : decide (1000000000000 < a) = false := by simpa using h5
  obtain ⟨r, hr⟩ : ∃ r, a.tmod un = r := ⟨_, rfl⟩
  have hr2 : a % un = r := by rw [← hr, Int.tmod_eq_emod_of_nonneg (by omega)]
  have HR2 := Lib.hid hr2
  clear hr2
  have hu3 : ¬ un = 0 := by omega
  have hu4 : ¬ un = -1 := by omega
  by_cases h6 : r = 0
  rotate_left
  · have hf1 := Lib.hid (show E = 79 by rw [← HE2.out, if_neg (fun h => by have e3 : a % un = 0 := h.2.2; rw [HR2.out] at e3; exact h6 e3)])
    have d6 : (r != 0) = true := by simpa using h6
    have d6' : (r == 0) = false := by simpa using h6
    go_wp2
    go_ret2
    exact moved_err hf1.out (by omega) (bal HB.out _)
  subst h6
  have he3 := HE2.out
  rw [if_pos ⟨show (0 : Int) < a by omega, show a ≤ 1000000000000 by omega, HR2.out⟩] at he3
  have HE3 := Lib.hid he3
  clear he3 HE2
  obtain ⟨x, hx⟩ : ∃ x, inB 0 1 1000 = x := ⟨_, rfl⟩
  obtain ⟨y, hy⟩ : ∃ y, inB t 1 1000 = y := ⟨_, rfl⟩
  have HX := Lib.hid hx
  have HY := Lib.hid hy
  clear hx hy
  cases y
  · have hf1 := Lib.hid (show E = 6 by rw [← HE3.out, if_pos (by simp [strangeB, HY.out])])
    go_wp2
    go_quiet (fail)
    go_wp2_with (first | (go_at_call 318; refine (fholder_any _ _).mono ?_; rw [HX.out]; rintro e w' ⟨rfl, rfl⟩) | (go_at_call 318; refine (fholder_any _ _).mono ?_; rw [HY.out]; rintro e w' ⟨rfl, rfl⟩))
    go_ret2
    exact moved_err hf1.out (by omega) (below_drewZ (bal HB.out _) _)
  have he4 := HE3.out
  rw [if_neg (by simp [strangeB, HY.out])] at he4
  have HE4 := Lib.hid he4
  clear he4 HE3
  have u2 : ∀ nq nq2, ∀ z : Up (((w1.alloc (.cells #[.int .i64 id, .int .i64 un, .int .i64 is, .int .i64 ma, .int .i64 ra, .int .i64 ev, .bool ix] 26 (0, 0))).drewN nq).drewN nq2), z.1.cell? ⟨w.heap.size + 1, 2, none⟩ = some (.int .i64 1) := fun nq nq2 => up_cell (show (((w1.alloc (.cells #[.int .i64 id, .int .i64 un, .int .i64 is, .int .i64 ma, .int .i64 ra, .int .i64 ev, .bool ix] 26 (0, 0))).drewN nq).drewN nq2).cell? _ = _ from keepA (w := w1) m2)
  have u3 : ∀ nq nq2, ∀ z : Up (((w1.alloc (.cells #[.int .i64 id, .int .i64 un, .int .i64 is, .int .i64 ma, .int .i64 ra, .int .i64 ev, .bool ix] 26 (0, 0))).drewN nq).drewN nq2), z.1.cell? ⟨w.heap.size + 1, 3, none⟩ = some (.int .i64 s) := fun nq nq2 => up_cell (show (((w1.alloc (.cells #[.int .i64 id, .int .i64 un, .int .i64 is, .int .i64 ma, .int .i64 ra, .int .i64 ev, .bool ix] 26 (0, 0))).drewN nq).drewN nq2).cell? _ = _ from keepA (w := w1) m3)
  have u4 : ∀ nq nq2, ∀ z : Up (((w1.alloc (.cells #[.int .i64 id, .int .i64 un, .int .i64 is, .int .i64 ma, .int .i64 ra, .int .i64 ev, .bool ix] 26 (0, 0))).drewN nq).drewN nq2), z.1.cell? ⟨w.heap.size + 1, 4, none⟩ = some (.int .i64 0) := fun nq nq2 => up_cell (show (((w1.alloc (.cells #[.int .i64 id, .int .i64 un, .int .i64 is, .int .i64 ma, .int .i64 ra, .int .i64 ev, .bool ix] 26 (0, 0))).drewN nq).drewN nq2).cell? _ = _ from keepA (w := w1) m4)
  have u5 : ∀ nq nq2, ∀ z : Up (((w1.alloc (.cells #[.int .i64 id, .int .i64 un, .int .i64 is, .int .i64 ma, .int .i64 ra, .int .i64 ev, .bool ix] 26 (0, 0))).drewN nq).drewN nq2), z.1.cell? ⟨w.heap.size + 1, 5, none⟩ = some (.int .i64 t) := fun nq nq2 => up_cell (show (((w1.alloc (.cells #[.int .i64 id, .int .i64 un, .int .i64 is, .int .i64 ma, .int .i64 ra, .int .i64 ev, .bool ix] 26 (0, 0))).drewN nq).drewN nq2).cell? _ = _ from keepA (w := w1) m5)
  have u6 : ∀ nq nq2, ∀ z : Up (((w1.alloc (.cells #[.int .i64 id, .int .i64 un, .int .i64 is, .int .i64 ma, .int .i64 ra, .int .i64 ev, .bool ix] 26 (0, 0))).drewN nq).drewN nq2), z.1.cell? ⟨w.heap.size + 1, 6, none⟩ = some (.int .i64 a) := fun nq nq2 => up_cell (show (((w1.alloc (.cells #[.int .i64 id, .int .i64 un, .int .i64 is, .int .i64 ma, .int .i64 ra, .int .i64 ev, .bool ix] 26 (0, 0))).drewN nq).drewN nq2).cell? _ = _ from keepA (w := w1) m6)
  have HW := Lib.hid (fun (nq nq2 : Nat) => below_drewZ (below_drewZ (bal HB.out (.cells #[.int .i64 id, .int .i64 un, .int .i64 is, .int .i64 ma, .int .i64 ra, .int .i64 ev, .bool ix] 26 (0, 0))) nq) nq2)
  obtain ⟨q, hq⟩ : ∃ q, outH L s = q := ⟨_, rfl⟩
  have hqb := HK.out.out s
  rw [hq] at hqb
  have hqn := outH_nonneg HK.out.pos s
  rw [hq] at hqn
  have HQ := Lib.hid (fun W (hW : Below w.heap.size w W) => (show Calls Tryz.prog 145 #[.slice a3 n3 c3, .int .i64 s] W (fun e w' => e = .returned (.int .i64 q) ∧ Below W.heap.size W w') by rw [← hq]; exact fout_any P _ L s W (HS.out.below hW) HK.out hL))
  have HQQ := Lib.hid hq
  clear hq
  by_cases hgt : 1000000000000 < q + a
  · have hf1 := Lib.hid (show E = 2 by rw [← HE4.out, if_neg (by simp), if_pos ⟨rfl, by show 1000000000000 < outH L s + a; rw [HQQ.out]; exact hgt⟩])
    have dgt : decide (1000000000000 < q + a) = true := by simpa using hgt
    go_wp2
    go_quiet (fail)
    go_wp2_with (first | (go_at_call 318; refine (fholder_any _ _).mono ?_; rw [HX.out]; rintro e w' ⟨rfl, rfl⟩) | (go_at_call 318; refine (fholder_any _ _).mono ?_; rw [HY.out]; rintro e w' ⟨rfl, rfl⟩))
    go_quiet (fail)
    go_wp2
    (refine wp_region_up (by kernel_rfl) (by kernel_rfl) ?_); (repeat (go_big_quiet_step ((go_at_call 145; refine (HQ.out _ (bup (HW.out _ _) (Subtype.property _))).mono ?_; exact fun _ _ hh => ⟨hh.1, ⟨_, bup (Subtype.property _) hh.2⟩, rfl⟩)))); (refine wpQuiet_nil ?_); (rintro w3 ⟨⟨_, hb3⟩, rfl⟩)
    go_wp2
    go_ret2
    exact moved_err hf1.out (by omega) (bup (HW.out _ _) hb3)
  have dgt : decide (1000000000000 < q + a) = false := by simpa using hgt
  have hE0 := Lib.hid (show E = 0 by rw [← HE4.out, if_neg (by simp), if_neg (fun hq => by have hq2 : 1000000000000 < outH L s + a := hq.2; rw [HQQ.out] at hq2; exact hgt hq2)])
  have ht0 : ¬ t = 0 := by have := inB_iff.1 HY.out; omega
  have hGG := Lib.hid (show G = addH L s t a by rw [← HG.out]; simp [mvH, addZ, ht0])
  have HSET := Lib.hid (fun W (hW : Below w.heap.size w W) => fset_any P _ L s t a W (HS.out.below hW) HK.out.srt hL (by have := heldH_nonneg HK.out.pos s t; omega) (by have := heldH_le HK.out s t; omega))
  go_wp2
  go_quiet (fail)
  go_wp2_with (first | (go_at_call 318; refine (fholder_any _ _).mono ?_; rw [HX.out]; rintro e w' ⟨rfl, rfl⟩) | (go_at_call 318; refine (fholder_any _ _).mono ?_; rw [HY.out]; rintro e w' ⟨rfl, rfl⟩))
  go_quiet (fail)
  go_wp2
  (refine wp_region_up (by kernel_rfl) (by kernel_rfl) ?_); (repeat (go_big_quiet_step ((go_at_call 145; refine (HQ.out _ (bup (HW.out _ _) (Subtype.property _))).mono ?_; exact fun _ _ hh => ⟨hh.1, ⟨_, bup (Subtype.property _) hh.2⟩, rfl⟩)))); (refine wpQuiet_nil ?_); (rintro w3 ⟨⟨_, hb3⟩, rfl⟩)
  have v3 := u3 _ _ ⟨_, hb3⟩
  have v5 := u5 _ _ ⟨_, hb3⟩
  have v6 := u6 _ _ ⟨_, hb3⟩
  dsimp only at v3 v5 v6
  go_wp2_with fail
  refine (HSET.out _ (bup (HW.out _ _) hb3)).mono ?_
  rintro e w4 ⟨v', rfl, ho, hb4⟩
  have HO := Lib.hid ho
  have HB4 := Lib.hid hb4
  have HB3 := Lib.hid hb3
  clear ho hb4 hb3
  go_wp2
  go_ret2
  exact moved_ok hE0.out hGG.out HO.out (bup (HW.out _ _) HB3.out).size (bup (bup (HW.out _ _) HB3.out) HB4.out)
end Go.Proofs.YthjaofgdickkaaaGreat
