/- liquidity.Apply: the walk. -/
import Derived.Test.YtkkgipcidbgbhaaLqC
import Derived.Deep.AppendLies
namespace Go.Proofs.Ytkkgipcidbgbhaa
open Go.RowKit
set_option linter.unusedVariables false
set_option linter.unusedSimpArgs false
theorem stepA_all {L out : List (Int × Int)} {p : Int × Int × Int} (h : ∀ x ∈ out, totB x.2 = true) (ht : totB (amtAt (stepA L out p) (dayI L p.1).toNat) = true) (hk : (dayI L p.1).toNat < out.length) : ∀ x ∈ stepA L out p, totB x.2 = true := by
  intro x hx
  rcases List.mem_or_eq_of_mem_set hx with hx | hx
  · exact h x hx
  · unfold amtAt stepA at ht
    rw [List.getD_eq_getElem?_getD, List.getElem?_set_self hk] at ht
    rw [hx]; exact ht
theorem stepA_len (L out : List (Int × Int)) (p : Int × Int × Int) : (stepA L out p).length = out.length := by unfold stepA; rw [List.length_set]
theorem amt_bd {out : List (Int × Int)} (h : ∀ x ∈ out, totB x.2 = true) {k : Nat} {x : Int × Int} (hx : out[k]? = some x) : -1000000000000000 ≤ x.2 ∧ x.2 ≤ 1000000000000000 := inB_iff.1 (h x (List.mem_of_getElem? hx))
set_option maxHeartbeats 8000000 in
set_option maxRecDepth 100000 in
theorem apply_any (P R : Nat → Prop) (v u : Value) (L : List (Int × Int)) (Q : List (Int × Int × Int)) (w : World) (hS : Sl 2 encP P w v L) (hT : Sl 3 encQ R w u Q) (hl : L.length ≤ 1000000) (hq : Q.length ≤ 1000000) :
    Calls Try.prog 15 #[v, u] w (Applied (apE L Q) (apL L Q) w) := by
  obtain ⟨ao, n, c, rfl, hn, -, -⟩ := hS.shape
  obtain ⟨bo, m, d, rfl, hm, -, -⟩ := hT.shape
  have HS := Lib.hid hS
  have HT := Lib.hid hT
  have HN := Lib.hid hn
  have HM := Lib.hid hm
  have hn1 : n ≤ 1000000 := by omega
  have hm1 : m ≤ 1000000 := by omega
  have KA := Lib.hid (fun U (hU : Below w.heap.size w U) => containsP_any 54 #[] (fun x => !totB x.2) P _ L U (enters_of Try.func54 (by kernel_rfl) rfl) (fun W _ x _ => by obtain ⟨d, a⟩ := x; exact ap1_any d a W) (hS.below hU) hl)
  have KB := Lib.hid (fun U (hU : Below w.heap.size w U) => containsQ_any 57 #[] (fun p => !amB p.2.1 p.2.2) R _ Q U (enters_of Try.func57 (by kernel_rfl) rfl) (fun W _ x _ => by obtain ⟨d, r, p⟩ := x; exact ap2_any d r p W) (hT.below hU) hq)
  have KC := Lib.hid (fun U (hU : Below w.heap.size w U) => pos_days ao n c _ _ U hn1 (hS.below hU).posAt)
  have KD := Lib.hid (fun U (hU : Below w.heap.size w U) => planned_any P R _ _ L Q U (hS.below hU) (hT.below hU) hl hq)
  have KE := Lib.hid (fun U (hU : Below w.heap.size w U) => clonePos_any P _ L U (hS.below hU) hl)
  have KF := Lib.hid (fun U (day : Int) (hU : Below w.heap.size w U) => at_any P _ L day U (hS.below hU) hl)
  clear hS hT hl hq hn hm
  cases h1 : badL L
  case true =>
    have hE : apE L Q = 2 := by unfold apE; rw [h1]; rfl
    have HL := Lib.hid (show apL L Q = [] by unfold apL; rw [hE]; rfl)
    have H1 := Lib.hid (show (L.any fun x => !totB x.2) = true from h1)
    rw [hE]
    clear hE h1
    go_enter Try.func15, Try.ntmps15
    go_wp2_with fail
    refine (KA.out _ brefl).mono ?_
    rw [H1.out]
    rintro e w1 ⟨rfl, hb1⟩
    have HB := Lib.hid hb1
    clear hb1
    go_wp2
    go_ret2
    exact applied_nil HL.out HB.out
  have H1 := Lib.hid (show (L.any fun x => !totB x.2) = false from h1)
  cases h2 : badQ Q
  case true =>
    have hE : apE L Q = 2 := by unfold apE; rw [h1, h2]; rfl
    have HL := Lib.hid (show apL L Q = [] by unfold apL; rw [hE]; rfl)
    have H2 := Lib.hid (show (Q.any fun p => !amB p.2.1 p.2.2) = true from h2)
    rw [hE]
    clear hE h1 h2
    go_enter Try.func15, Try.ntmps15
    go_wp2_with fail
    refine (KA.out _ brefl).mono ?_
    rw [H1.out]
    rintro e w1 ⟨rfl, hb1⟩
    have HB := Lib.hid hb1
    clear hb1
    go_wp2_with fail
    refine (KB.out _ HB.out).mono ?_
    rw [H2.out]
    rintro e w2 ⟨rfl, hb2⟩
    have HB2 := Lib.hid (bup HB.out hb2)
    clear hb2
    go_wp2
    go_ret2
    exact applied_nil HL.out HB2.out
  have H2 := Lib.hid (show (Q.any fun p => !amB p.2.1 p.2.2) = false from h2)
  have HBL := Lib.hid h1
  have HBQ := Lib.hid h2
  cases h3 : ascB n (pd2 L)
  case false =>
    have hE : apE L Q = 8 := by unfold apE; rw [h1, h2, HN.out, h3]; rfl
    have HL := Lib.hid (show apL L Q = [] by unfold apL; rw [hE]; rfl)
    have H3 := Lib.hid h3
    rw [hE]
    clear hE h1 h2 h3
    go_enter Try.func15, Try.ntmps15
    go_wp2_with fail
    refine (KA.out _ brefl).mono ?_
    rw [H1.out]
    rintro e w1 ⟨rfl, hb1⟩
    have HB := Lib.hid hb1
    clear hb1
    go_wp2_with fail
    refine (KB.out _ HB.out).mono ?_
    rw [H2.out]
    rintro e w2 ⟨rfl, hb2⟩
    have HB2 := Lib.hid (bup HB.out hb2)
    clear hb2
    go_wp2_with fail
    refine (KC.out _ HB2.out).mono ?_
    rintro e w3 ⟨ao', c', rfl, hx, hb3⟩
    have HX := Lib.hid (ascending_any ao' n c' _ _ hn1 hx)
    rw [H3.out] at HX
    have HB3 := Lib.hid (bup HB2.out hb3)
    clear hx hb3
    go_wp2_with (go_at_call 59; refine HX.out.mono ?_; rintro e w4 ⟨rfl, rfl⟩)
    go_ret2
    exact applied_nil HL.out HB3.out
  have H3 := Lib.hid h3
  cases h4 : plB L Q
  case false =>
    have hE : apE L Q = 8 := by unfold apE; rw [h1, h2, HN.out, h3, h4]; rfl
    have HL := Lib.hid (show apL L Q = [] by unfold apL; rw [hE]; rfl)
    have H4 := Lib.hid h4
    rw [hE]
    clear hE h1 h2 h3 h4
    go_enter Try.func15, Try.ntmps15
    go_wp2_with fail
    refine (KA.out _ brefl).mono ?_
    rw [H1.out]
    rintro e w1 ⟨rfl, hb1⟩
    have HB := Lib.hid hb1
    clear hb1
    go_wp2_with fail
    refine (KB.out _ HB.out).mono ?_
    rw [H2.out]
    rintro e w2 ⟨rfl, hb2⟩
    have HB2 := Lib.hid (bup HB.out hb2)
    clear hb2
    go_wp2_with fail
    refine (KC.out _ HB2.out).mono ?_
    rintro e w3 ⟨ao', c', rfl, hx, hb3⟩
    have HX := Lib.hid (ascending_any ao' n c' _ _ hn1 hx)
    rw [H3.out] at HX
    have HB3 := Lib.hid (bup HB2.out hb3)
    clear hx hb3
    have HD3 := Lib.hid (KD.out _ HB3.out)
    rw [H4.out] at HD3
    go_wp2_with (first
      | (go_at_call 59; refine HX.out.mono ?_; rintro e w4 ⟨rfl, rfl⟩)
      | (go_at_call 62; refine HD3.out.mono ?_; rintro e w4 ⟨rfl, hb4⟩))
    go_ret2
    exact applied_nil HL.out (bup HB3.out hb4)
  have H4 := Lib.hid h4
  obtain ⟨Z, hZ⟩ : ∃ Z, runA L L Q = Z := ⟨_, rfl⟩
  have hE : apE L Q = if Z.isSome then 0 else 2 := by unfold apE; rw [h1, h2, HN.out, h3, h4, hZ]; rfl
  have hL : apL L Q = Z.getD [] := by
    unfold apL; rw [hE, hZ]
    cases Z <;> rfl
  rw [hE, hL]
  obtain ⟨E, hEd⟩ : ∃ E : Int, (if Z.isSome = true then (0 : Int) else 2) = E := ⟨_, rfl⟩
  obtain ⟨O, hOd⟩ : ∃ O, Z.getD [] = O := ⟨_, rfl⟩
  rw [hEd, hOd]
  have HED := Lib.hid hEd
  have HOD := Lib.hid hOd
  have HZ := Lib.hid hZ
  clear hE hL h1 h2 h3 h4 hZ hEd hOd
  go_enter Try.func15, Try.ntmps15
  go_wp2_with fail
  refine (KA.out _ brefl).mono ?_
  rw [H1.out]
  rintro e w1 ⟨rfl, hb1⟩
  have HB := Lib.hid hb1
  clear hb1
  go_wp2_with fail
  refine (KB.out _ HB.out).mono ?_
  rw [H2.out]
  rintro e w2 ⟨rfl, hb2⟩
  have HB2 := Lib.hid (bup HB.out hb2)
  clear hb2
  go_wp2_with fail
  refine (KC.out _ HB2.out).mono ?_
  rintro e w3 ⟨ao', c', rfl, hx, hb3⟩
  have HX := Lib.hid (ascending_any ao' n c' _ _ hn1 hx)
  rw [H3.out] at HX
  have HB3 := Lib.hid (bup HB2.out hb3)
  clear hx hb3
  have HD3 := Lib.hid (KD.out _ HB3.out)
  rw [H4.out] at HD3
  go_wp2_with (first
    | (go_at_call 59; refine HX.out.mono ?_; rintro e w4 ⟨rfl, rfl⟩)
    | (go_at_call 62; refine HD3.out.mono ?_; rintro e w4 ⟨rfl, hb4⟩))
  have HB4 := Lib.hid (bup HB3.out hb4)
  clear hb4
  go_wp2_with fail
  refine (KE.out _ HB4.out).mono ?_
  rintro e w5 ⟨v5, rfl, hown5, hb5⟩
  have HB5 := Lib.hid (bup HB4.out hb5)
  have hz4 := HB4.out.size
  have hz5 := hb5.size
  rw [HN.out] at hown5
  clear hb5
  have hdays := Lib.hid (fun p (hp : p ∈ Q) => plB_day H4.out hp)
  have hams := Lib.hid (fun p (hp : p ∈ Q) => badQ_am HBQ.out hp)
  have htot := Lib.hid (fun x (hx : x ∈ L) => badL_tot HBL.out hx)
  clear KA KB KC KD KE H1 H2 HBL HBQ H3 H4 HB HB2 HB3 HX HD3
  go_wp2
  by_cases hm0 : m = 0
  · subst hm0
    have hQ : Q = [] := List.eq_nil_of_length_eq_zero HM.out
    subst hQ
    have hZ := HZ.out
    simp only [runA] at hZ
    have hE0 : E = 0 := by rw [← HED.out, ← hZ]; rfl
    have hO0 : O = L := by rw [← HOD.out, ← hZ]; rfl
    subst hE0 hO0
    clear hZ
    have HO := Lib.hid hown5
    clear hown5
    go_loopw [30] (fun iv wr => iv = .int .i64 0 ∧ wr = w5) (fun iv _ => 0)
    case atStart => exact ⟨rfl, rfl⟩
    case round =>
      obtain ⟨rfl, rfl⟩ := hrel
      go_wp2
      go_ret2
      exact ⟨_, rfl, Sl.own encP_len HO.out HN.out (fun b hb => by omega), HB5.out⟩
  · have hn0 : 0 < n := by
      obtain ⟨p, hp⟩ : ∃ p, p ∈ Q := ⟨Q[0]'(by have := HM.out; omega), List.getElem_mem _⟩
      have := hdays.out p hp
      have := HN.out
      omega
    obtain ⟨g, cp, rfl, hg, hgz⟩ := hown5.form hn0
    have HR := Lib.hid (show RowP w4.heap.size g n cp L w5 from ⟨hown5, HN.out⟩)
    clear hown5
    go_loopw [30] (fun iv wr => ∃ (k : Nat) (out : List (Int × Int)), k ≤ m ∧ iv = .int .i64 k ∧ RowP w4.heap.size g n cp out wr ∧ (∀ x ∈ out, totB x.2 = true) ∧ runA L out (Q.drop k) = Z ∧ Below w.heap.size w wr ∧ g < wr.heap.size) (fun iv _ => m - (intOf iv).toNat)
    case atStart => exact ⟨0, L, by omega, rfl, HR.out, htot.out, HZ.out, HB5.out, hgz⟩
    case round =>
      obtain ⟨k, out, hk, rfl, hr, hto, hrun, hbr, hgr⟩ := hrel
      have HRO := Lib.hid hr
      have HTO := Lib.hid hto
      have HBR := Lib.hid hbr
      clear hr hto
      by_cases hlt : k < m
      · obtain ⟨b, off, pd, pr, pp, rfl, -, hbl, hx, k0, k1, k2⟩ := (HT.out.below hbr).pln hlt
        rw [drop_cons hx, runA] at hrun
        have hday := hdays.out _ (List.mem_of_getElem? hx)
        have ham := hams.out _ (List.mem_of_getElem? hx)
        simp only at hday ham
        obtain ⟨di, hdi⟩ : ∃ di, dayI L pd = di := ⟨_, rfl⟩
        have hstep : stepA L out (pd, pr, pp) = out.set di.toNat ((out.getD di.toNat (0, 0)).1, amtAt out di.toNat + (pr - pp)) := by unfold stepA; simp only [hdi]
        simp only [hdi] at hrun
        rw [hdi] at hday
        obtain ⟨q, rfl⟩ := Int.eq_ofNat_of_zero_le hday.1
        have hqn : q < n := by have := hday.2; have := HN.out; omega
        have hqz : (q : Int) < n := by omega
        obtain ⟨xd, xa, hxq⟩ : ∃ xd xa, out[q]? = some (xd, xa) := ⟨_, _, List.getElem?_eq_getElem (by rw [HRO.out.2]; omega)⟩
        obtain ⟨c0, c1, f1, -, hcap⟩ := HRO.out.at_ hxq
        have hxb := amt_bd HTO.out hxq
        simp only at hxb
        obtain ⟨y, hy⟩ : ∃ y, xa + (pr - pp) = y := ⟨_, rfl⟩
        have hst2 : stepA L out (pd, pr, pp) = out.set q (xd, y) := by rw [hstep]; simp [amtAt, List.getD_eq_getElem?_getD, hxq, hy]
        have hat2 : amtAt (out.set q (xd, y)) q = y := by
          unfold amtAt
          rw [List.getD_eq_getElem?_getD, List.getElem?_set_self (by rw [HRO.out.2]; omega)]; rfl
        rw [hst2] at hrun
        simp only [Int.toNat_natCast, hat2] at hrun
        have HQ := Lib.hid (KF.out (wr.alloc (.cells #[.int .i64 pd, .int .i64 pr, .int .i64 pp] 53)) pd (bal hbr _))
        rw [hdi] at HQ
        have HLEN := Lib.hid (show (stepA L out (pd, pr, pp)).length = n by rw [stepA_len]; exact HRO.out.2)
        have HXQ := Lib.hid hxq
        have hk3 : (k : Int) < m := by omega
        have hne : ¬ g = wr.heap.size := by omega
        have hr1 : 0 ≤ pr ∧ pr ≤ 1000000000000 := ham.1
        have hp1 : 0 ≤ pp ∧ pp ≤ 1000000000000 := ham.2
        have HRUN := Lib.hid hrun
        have HST := Lib.hid hst2
        clear hdi hstep hst2 hat2 hrun ham hday hx hxq hbr
        go_wp2_with fail
        refine HQ.out.mono ?_
        rintro e w6 ⟨rfl, hb6⟩
        obtain ⟨hc6, hf6⟩ := bcell hb6
        have hb6' := bup (bal HBR.out _) hb6
        have hz6 := hb6.size
        simp only [World.size_alloc] at hz6
        have hgl : g < wr.heap.size + 1 := by omega
        have e0 : w6.cell? ⟨g, q * 2, none⟩ = some (.int .i64 xd) := (hb6.cell (p := ⟨g, q * 2, none⟩) (by simp; omega)).trans (keepA c0)
        have e1 : w6.cell? ⟨g, q * 2 + 1, none⟩ = some (.int .i64 xa) := (hb6.cell (p := ⟨g, q * 2 + 1, none⟩) (by simp; omega)).trans (keepA c1)
        have p1 : w6.cell? ⟨wr.heap.size, 1, none⟩ = some (.int .i64 pr) := (hb6.cell (p := ⟨wr.heap.size, 1, none⟩) (by simp)).trans ((World.cell?_alloc_at _ _ _ _ rfl).trans rfl)
        have p2 : w6.cell? ⟨wr.heap.size, 2, none⟩ = some (.int .i64 pp) := (hb6.cell (p := ⟨wr.heap.size, 2, none⟩) (by simp)).trans ((World.cell?_alloc_at _ _ _ _ rfl).trans rfl)
        have hrow6 := (HRO.out.below (bal brefl (.cells #[.int .i64 pd, .int .i64 pr, .int .i64 pp] 53))).below hb6
        have ff := hrow6.1.frozenAt (q * 2 + 1)
        have HROW := Lib.hid hrow6
        have HB6 := Lib.hid hb6'
        clear hb6 hb6' hrow6 c0 c1 f1 hc6 hf6 HQ k0 k1 k2
        go_wp2_with fail
        go_region
        have hrowS := (HROW.out.set HXQ.out y).1
        have hrow7 : RowP w4.heap.size g n cp (out.set q (xd, y)) (w6.setCell ⟨g, q * 2 + 1, none⟩ (.int .i64 y)).drew := ⟨hrowS.1, hrowS.2⟩
        have hxq7 : (out.set q (xd, y))[q]? = some (xd, y) := List.getElem?_set_self (by have := (List.getElem?_eq_some_iff.1 HXQ.out).1; exact this)
        have hb7 : Below w.heap.size w (w6.setCell ⟨g, q * 2 + 1, none⟩ (.int .i64 y)).drew := bdr (bset HB6.out (by simp only; omega) _)
        have hz7 : g < (w6.setCell ⟨g, q * 2 + 1, none⟩ (.int .i64 y)).drew.heap.size := by
          have : (w6.setCell ⟨g, q * 2 + 1, none⟩ (.int .i64 y)).drew.heap.size = w6.heap.size := World.size_setCell ..
          omega
        generalize (w6.setCell ⟨g, q * 2 + 1, none⟩ (.int .i64 y)).drew = W7 at hrow7 hb7 hz7 ⊢
        obtain ⟨c0, c1, -, -, -⟩ := hrow7.at_ hxq7
        have HR7 := Lib.hid hrow7
        have HB7 := Lib.hid hb7
        have HRUN2 := HRUN.out
        clear hrow7 hb7 hrowS hxq7 e0 e1 p1 p2 ff hy
        cases hty : totB y
        · rw [hty] at HRUN2
          have hz : Z = none := by rw [← HRUN2]; rfl
          have hE2 : E = 2 := by rw [← HED.out, hz]; rfl
          have hO2 : O = [] := by rw [← HOD.out, hz]; rfl
          have HTY := Lib.hid (show inB y (-1000000000000000) 1000000000000000 = false from hty)
          subst hE2 hO2
          clear HRUN2 hz hty
          go_wp2_with (go_at_call 55; refine (ltotal_any _ _ _).mono ?_; rw [HTY.out]; rintro e w8 ⟨rfl, hb8⟩)
          go_ret2
          exact applied_nil rfl (bup HB7.out (by assumption))
        · rw [hty, if_pos rfl] at HRUN2
          have HTY := Lib.hid (show inB y (-1000000000000000) 1000000000000000 = true from hty)
          have HRUN3 := Lib.hid HRUN2
          have htot2 := Lib.hid (show ∀ x ∈ out.set q (xd, y), totB x.2 = true from fun x hx => by
            rcases List.mem_or_eq_of_mem_set hx with hx | hx
            · exact HTO.out x hx
            · rw [hx]; exact hty)
          clear HRUN2 hty
          go_wp2_with (go_at_call 55; refine (ltotal_any _ _ _).mono ?_; rw [HTY.out]; rintro e w8 ⟨rfl, hb8⟩)
          go_roundw
          case rel => exact ⟨k + 1, out.set q (xd, y), by omega, by go_num, HR7.out.below hb8, htot2.out, HRUN3.out, bup HB7.out hb8, Nat.lt_of_lt_of_le hz7 hb8.size⟩
          case measure => simp [intOf]; omega
      · have hkm : k = m := by omega
        subst hkm
        rw [drop_all (by have := HM.out; omega), runA] at hrun
        have hE0 : E = 0 := by rw [← HED.out, ← hrun]; rfl
        have hO0 : O = out := by rw [← HOD.out, ← hrun]; rfl
        subst hE0 hO0
        clear hrun
        go_wp2
        go_ret2
        exact ⟨_, rfl, Sl.own encP_len HRO.out.1 HRO.out.2 (fun b hb => by omega), HBR.out⟩
end Go.Proofs.Ytkkgipcidbgbhaa
