/- The reference of layer 1: Parts. -/
import Derived.Test.YtkkgipcidbgbhaaMRefA
import Derived.Test.YtkkgipcidbgbhaaMonR
namespace Go.Proofs.Ytkkgipcidbgbhaa
open Go.RowKit
set_option linter.unusedVariables false
set_option linter.unusedSimpArgs false
theorem wg_cases (x : Int) : (x < 0 ∧ wgB x = false) ∨ (0 ≤ x ∧ 1000000 < x ∧ wgB x = false) ∨ (0 ≤ x ∧ x ≤ 1000000 ∧ wgB x = true) := by
  unfold wgB
  cases h : inB x 0 1000000
  · have := inB_not.1 h
    rcases (show x < 0 ∨ (0 ≤ x ∧ 1000000 < x) by omega) with h | h
    · exact .inl ⟨h, rfl⟩
    · exact .inr (.inl ⟨h.1, h.2, rfl⟩)
  · have := inB_iff.1 h
    exact .inr (.inr ⟨this.1, this.2, rfl⟩)
theorem any_take {W : List Int} {k : Nat} (h : ∀ x ∈ W.take k, wgB x = true) (hk : W.length ≤ k) : (W.any fun w => !wgB w) = false := by
  rw [List.any_eq_false]
  intro x hx
  rw [take_all hk] at h
  simp [h x hx]
theorem any_bad {W : List Int} {k : Nat} {x : Int} (hx : W[k]? = some x) (h : wgB x = false) : (W.any fun w => !wgB w) = true :=
  List.any_eq_true.2 ⟨x, List.mem_of_getElem? hx, by simp [h]⟩
theorem two_sym {v u : Value} (h : Two v u) : Two u v := fun b h1 h2 => h b h2 h1
set_option maxHeartbeats 16000000 in
set_option maxRecDepth 100000 in
theorem r01parts_any (t : Int) (P : Nat → Prop) (v : Value) (W : List Int) (w : World) (hS : Sl 1 encI P w v W) (hl : W.length ≤ 1000000) :
    Calls Try.prog 49 #[.int .i64 t, v] w (PartsMade (partsE t W) (partsL t W) w) := by
  obtain ⟨ao, n, c, rfl, hn, hnc, hcm⟩ := hS.shape
  have HN := Lib.hid hn
  have HS := Lib.hid hS
  have hn1 : n ≤ 1000000 := by omega
  clear hS hn hl
  cases hT : inB t 0 1000000000000
  · have hE : partsE t W = 2 := by unfold partsE; rw [hT]; rfl
    have hL : partsL t W = [] := by unfold partsL; rw [hE]; rfl
    rw [hE]
    have HT := Lib.hid hT
    have HL := Lib.hid hL
    clear hE hL hT
    go_enter Try.func49, Try.ntmps49
    go_wp2_with (go_at_call 45; refine (r01valid_any _ _).mono ?_; rw [HT.out]; rintro e w1 ⟨rfl, rfl⟩)
    go_ret2
    exact partsMade_nil HL.out brefl
  have HT := Lib.hid hT
  obtain ⟨t0, t1⟩ := inB_iff.1 hT
  have HTT := Lib.hid hT
  clear hT
  go_enter Try.func49, Try.ntmps49
  go_wp2_with (go_at_call 45; refine (r01valid_any _ _).mono ?_; rw [HT.out]; rintro e w1 ⟨rfl, rfl⟩)
  go_loopw [23] (fun iv wr => ∃ k : Nat, k ≤ n ∧ iv = .int .i64 k ∧ (∀ x ∈ W.take k, wgB x = true) ∧ wr = w) (fun iv _ => n - (intOf iv).toNat)
  case atStart => exact ⟨0, by omega, rfl, by simp, by first | exact rfl | exact True.intro⟩
  case round =>
    obtain ⟨k, hk, rfl, hwk, rfl⟩ := hrel
    by_cases hlt : k < n
    · obtain ⟨b, off, x, rfl, -, -, hx, hc⟩ := HS.out.int hlt
      have hlt3 : (k : Int) < n := by omega
      rcases wg_cases x with ⟨g1, g2⟩ | ⟨g0, g1, g2⟩ | ⟨g0, g1, g2⟩
      · have hE : partsE t W = 2 := by unfold partsE; rw [HT.out, any_bad hx g2]; rfl
        have hL : partsL t W = [] := by unfold partsL; rw [hE]; rfl
        have HEE := Lib.hid hE
        have HL := Lib.hid hL
        clear hE hL hwk hx g2
        go_wp2
        go_ret2
        rw [HEE.out]
        exact partsMade_nil HL.out brefl
      · have hE : partsE t W = 2 := by unfold partsE; rw [HT.out, any_bad hx g2]; rfl
        have hL : partsL t W = [] := by unfold partsL; rw [hE]; rfl
        have HEE := Lib.hid hE
        have HL := Lib.hid hL
        clear hE hL hwk hx g2
        go_wp2
        go_ret2
        rw [HEE.out]
        exact partsMade_nil HL.out brefl
      · have HX := Lib.hid hx
        have HW := Lib.hid hwk
        have HG := Lib.hid g2
        clear hx hwk g2
        go_wp2
        go_roundw
        case rel => exact ⟨k + 1, by omega, by go_num, fun y hy => by
          rw [take_snocZ HX.out] at hy
          rcases List.mem_append.1 hy with h | h
          · exact HW.out y h
          · rw [List.mem_singleton.1 h]; exact HG.out, by first | exact rfl | exact True.intro⟩
        case measure => simp [intOf]; omega
    · have hA := any_take hwk (by have := HN.out; omega)
      have hkn : k = n := by omega
      subst hkn
      rename World => w
      clear hwk hlt
      have hwg := wg_all hA
      have HST := Lib.hid (sum_take hwg)
      have HW := Lib.hid hwg
      by_cases h200 : 200 < k
      · have hE : partsE t W = 3 := by unfold partsE; rw [HT.out, hA]; simp [show 200 < W.length by have := HN.out; omega]
        have hL : partsL t W = [] := by unfold partsL; rw [hE]; rfl
        have HEE := Lib.hid hE
        have HL := Lib.hid hL
        have hz : ((200 : Int) < k) := by omega
        clear hE hL hA hwg
        go_wp2
        go_ret2
        rw [HEE.out]
        exact partsMade_nil HL.out brefl
      · have hE : partsE t W = if sumI W = 0 then 1 else 0 := by unfold partsE; rw [HT.out, hA]; simp [show ¬ 200 < W.length by have := HN.out; omega]
        have HE := Lib.hid hE
        have hz : ¬ ((200 : Int) < k) := by omega
        have hn2 : k ≤ 200 := by omega
        obtain ⟨n, hnk⟩ : ∃ n, n = k := ⟨_, rfl⟩
        subst hnk
        clear hE hA hwg
        go_wp2
        go_loopw [6, 39] (fun sv iv wr => ∃ k : Nat, k ≤ n ∧ iv = .int .i64 k ∧ sv = .int .i64 (sumI (W.take k)) ∧ wr = w) (fun _ iv _ => n - (intOf iv).toNat)
        case atStart => exact ⟨0, by omega, rfl, rfl, by first | exact rfl | exact True.intro⟩
        case round =>
          obtain ⟨k, hk, rfl, rfl, rfl⟩ := hrel
          obtain ⟨S, hSk⟩ : ∃ S, sumI (W.take k) = S := ⟨_, rfl⟩
          have sb := HST.out k
          rw [hSk] at sb
          have hWn : W.length = n := HN.out
          by_cases hlt : k < n
          · obtain ⟨b, off, x, rfl, -, -, hx, hc⟩ := HS.out.int hlt
            have bx := HW.out x (List.mem_of_getElem? hx)
            have hnext := Lib.hid (show sumI (W.take (k + 1)) = S + x by rw [take_snocZ hx, sumI_append, hSk]; simp [sumI])
            have hlt3 : (k : Int) < n := by omega
            clear hx
            rw [hSk]
            clear hSk
            go_wp2
            go_roundw
            case rel => exact ⟨k + 1, by omega, by go_num, by rw [hnext.out], by first | exact rfl | exact True.intro⟩
            case measure => simp [intOf]; omega
          · have hS0 : S = sumI W := by rw [← hSk, take_all (by omega)]
            have hlt3 : ¬ (k : Int) < n := by omega
            rw [hSk]
            rename World => Wo
            by_cases h0 : S = 0
            · have hE1 : partsE t W = 1 := by rw [HE.out, if_pos (by omega)]
              have hL : partsL t W = [] := by unfold partsL; rw [hE1]; rfl
              have HL := Lib.hid hL
              subst h0
              have HEE := Lib.hid hE1
              clear hE1 hL hSk hS0
              go_wp2
              go_ret2
              rw [HEE.out]
              exact partsMade_nil HL.out brefl
            · have hne : (S == 0) = false := by simpa using h0
              have hsp : 0 < S := by omega
              have hE1 : partsE t W = 0 := by rw [HE.out, if_neg (by omega)]
              have hL : partsL t W = partsR t S W := by unfold partsL; rw [hE1, if_pos rfl, hS0]
              have HE1 := Lib.hid hE1
              have HL := Lib.hid hL
              have HS0 := Lib.hid hS0
              have hsmall : S ≤ 200000000 := by omega
              clear hE1 hL hSk hS0 HST HE
              obtain ⟨i1, hi, hz0, hz1, hz2⟩ := info_parts infoInt
              have hs1 : ¬ S = 0 := h0
              have HBS := Lib.hid (fun k => sum_base_take (t := t) (W := W) t0 (by rw [← HS0.out]; exact hsp) (fun x hx => (HW.out x hx).1) k)
              have HTK := Lib.hid (show ∀ k, k < n → ∃ x, W[k]? = some x ∧ (baseP t S W)[k]? = some (t * x / S) ∧ (rstP t S W)[k]? = some (t * x % S) from fun k hk => ⟨W[k]'(by have := HN.out; omega), by simp, by simp [baseP, List.getElem?_map, show k < W.length by have := HN.out; omega], by simp [rstP, List.getElem?_map, show k < W.length by have := HN.out; omega]⟩)
              have hkn : k = n := by omega
              subst hkn
              obtain ⟨n, hnk⟩ : ∃ n, n = k := ⟨_, rfl⟩
              subst hnk
              clear hlt hlt3 hk
              go_wp2
              go_loopw [11, 12, 13, 52] (fun ov dv lv iv wq => ∃ (k : Nat), k ≤ n ∧ iv = .int .i64 k ∧ lv = .int .i64 (t - sumI ((baseP t S W).take k)) ∧ wq.ownsRow Wo.heap.size 3 1 ov k (((baseP t S W).take k).map cI) ∧ wq.ownsRow Wo.heap.size 3 1 dv k (((rstP t S W).take k).map cI) ∧ Two ov dv ∧ Below Wo.heap.size Wo wq) (fun _ _ _ iv _ => n - (intOf iv).toNat)
              case atStart => exact ⟨0, by omega, rfl, by simp [sumI], World.ownsRow_nil _ _ _ _, World.ownsRow_nil _ _ _ _, fun b h => by simp [Value.ownBlock] at h, brefl⟩
              case round =>
                obtain ⟨k2, hk2, rfl, rfl, hro, hrd, htw, hbq⟩ := hrel
                obtain ⟨A0, hA0⟩ : ∃ A0, sumI ((baseP t S W).take k2) = A0 := ⟨_, rfl⟩
                have bA := HBS.out k2
                rw [← HS0.out, hA0] at bA
                have HRO := Lib.hid hro
                have HRD := Lib.hid hrd
                have HTW := Lib.hid htw
                have HBQ := Lib.hid hbq
                have zq := hbq.size
                clear hro hrd htw hbq
                by_cases hlt : k2 < n
                · obtain ⟨b, off, x, rfl, -, -, hx, hc⟩ := (HS.out.below HBQ.out).int hlt
                  obtain ⟨x', hx', hbx, hrx⟩ := HTK.out k2 hlt
                  cases hx.symm.trans hx'
                  have bx := HW.out x (List.mem_of_getElem? hx)
                  have px := mul_bd t0 t1 bx.1 bx.2
                  have bA1 := HBS.out (k2 + 1)
                  rw [← HS0.out, take_snocZ hbx, sumI_append, hA0] at bA1
                  have eq1 : (t * x).tdiv S = t * x / S := Int.tdiv_eq_ediv_of_nonneg px.1
                  have eq2 : (t * x).tmod S = t * x % S := Int.tmod_eq_emod_of_nonneg px.1
                  have r0 := Int.emod_nonneg (t * x) (show S ≠ 0 by omega)
                  have r1 := Int.emod_lt_of_pos (t * x) hsp
                  have HBX := Lib.hid hbx
                  have HCX := Lib.hid hc
                  obtain ⟨p, hp⟩ : ∃ p, t * x = p := ⟨_, rfl⟩
                  obtain ⟨q, hq⟩ : ∃ q, p / S = q := ⟨_, rfl⟩
                  obtain ⟨r, hr⟩ : ∃ r, p % S = r := ⟨_, rfl⟩
                  have qb : 0 ≤ q ∧ q ≤ 1000000000000 := by
                    simp only [sumI, hp, hq] at bA1
                    have : 0 ≤ q := by rw [← hq, ← hp]; exact Int.ediv_nonneg px.1 (by omega)
                    omega
                  have HNX := Lib.hid (show (baseP t S W).take (k2 + 1) = (baseP t S W).take k2 ++ [q] by rw [take_snocZ hbx, hp, hq])
                  have HNR := Lib.hid (show (rstP t S W).take (k2 + 1) = (rstP t S W).take k2 ++ [r] by rw [take_snocZ hrx, hp, hr])
                  rw [hp] at px eq1 eq2 r0 r1
                  rw [hq] at eq1
                  rw [hr] at eq2 r0 r1
                  have wp_ : IntKind.i64.wrap p = p := IntWalk.i64_in _ (by omega)
                  have wq_ : IntKind.i64.wrap q = q := IntWalk.i64_in _ (by omega)
                  have wr_ : IntKind.i64.wrap r = r := IntWalk.i64_in _ (by omega)
                  clear hx hx' hbx hrx HCX
                  go_wp2_with (first
                    | (at_builtin; refine wpList_append_lies _ rfl _ _ 22 rfl Wo.heap.size 3 i1 (.int .i64 0) 1 8 Try.underlying22 hi hz0 hz1 hz2 rfl (by decide) u11 k2 (((baseP t S W).take k2).map cI) rfl (HRO.out.alloc _) ⟨wr.heap.size, 0, none⟩ 1 1 [.int .i64 q] rfl rfl (news1 _ _ _) (one1 _ _) (by omega) (by unfold maxLen; omega) (by omega) (by simp; omega) (wr.heap.size + 1) (by simp) ?_; intro g1 c1 w2 o2 gr2 at2 lt2; have hd2 := (HRD.out.alloc _).kept gr2 (two_far HTW.out); have b2 : Below Wo.heap.size Wo w2 := (HBQ.out.alloc HBQ.out.size _).grown gr2 (by simp; omega) (fun q hq => (HRO.out.lt q hq).1); have f2 := two_new (n := k2 + 1) (c := c1) HRD.out HTW.out (at2.imp id fun e => by simpa using e); have O2 := Lib.hid o2; have D2 := Lib.hid hd2; have B2 := Lib.hid b2; have F2 := Lib.hid f2; clear o2 gr2 at2 hd2 b2 f2)
                    | (at_builtin; refine wpList_append_lies _ rfl _ _ 22 rfl Wo.heap.size 3 i1 (.int .i64 0) 1 8 Try.underlying22 hi hz0 hz1 hz2 rfl (by decide) u12 k2 (((rstP t S W).take k2).map cI) rfl (D2.out.alloc _) ⟨w2.heap.size, 0, none⟩ 1 1 [.int .i64 r] rfl rfl (news1 _ _ _) (one1 _ _) (by omega) (by unfold maxLen; omega) (by omega) (by have := B2.out.size; simp; omega) (w2.heap.size + 1) (by simp) ?_; intro g2 c2 w3 o3 gr3 at3 lt3; have hd3 := (O2.out.alloc _).kept gr3 (F2.out); have b3 : Below Wo.heap.size Wo w3 := (B2.out.alloc B2.out.size _).grown gr3 (by have := B2.out.size; simp; omega) (fun q hq => (D2.out.lt q hq).1); have O3 := Lib.hid o3; have D3 := Lib.hid hd3; have B3 := Lib.hid b3; have F3 := Lib.hid (two_end (n := k2 + 1) (c := c1) (c' := c2) F2.out lt2 at3); clear o3 gr3 at3 hd3 b3))
                  clear HRO HRD HTW
                  have hA1 : sumI ((baseP t S W).take (k2 + 1)) = A0 + q := by rw [HNX.out, sumI_append, hA0]; simp [sumI]
                  have HA1 := Lib.hid hA1
                  clear hA1 hA0
                  go_roundw
                  case rel =>
                    refine ⟨k2 + 1, by omega, by go_num, ?_, ?_, ?_, F3.out, B3.out⟩
                    · rw [HA1.out]; go_num
                    · rw [HNX.out, List.map_append]; exact D3.out
                    · rw [HNR.out, List.map_append]; exact O3.out
                  case measure => simp [intOf]; omega
                · have hkn : k2 = n := by omega
                  subst hkn
                  obtain ⟨g1, c1, rfl, hg1, hg1z⟩ := HRO.out.form (by omega)
                  obtain ⟨g2, c2, rfl, hg2', hg2z⟩ := HRD.out.form (by omega)
                  have hgg : g1 ≠ g2 := fun e => HTW.out g1 rfl (by rw [e]; rfl)
                  have HRI := Lib.hid (show RowI Wo.heap.size g2 k2 c2 (rstP t S W) wr from ⟨by have h := HRD.out; rw [take_all (by simp [rstP, HN.out])] at h; exact h, by simp [rstP, HN.out]⟩)
                  have HRU := Lib.hid (show RowI Wo.heap.size g1 k2 c1 (baseP t S W) wr from ⟨by have h := HRO.out; rw [take_all (by simp [baseP, HN.out])] at h; exact h, by simp [baseP, HN.out]⟩)
                  have HLB := Lib.hid (left_bd (t := t) (W := W) t0 (by rw [← HS0.out]; exact hsp))
                  rw [take_all (by simp [baseP, HN.out])] at hA0
                  obtain ⟨m, hm⟩ := Int.eq_ofNat_of_zero_le (show 0 ≤ t - A0 by omega)
                  have hml : leftP t S W = m := by rw [leftP, hA0]; exact hm
                  have hm2 : t - sumI ((baseP t S W).take k2) = m := by rw [take_all (by simp [baseP, HN.out]), hA0]; exact hm
                  have hmk : m < k2 := by have h := HLB.out.2; rw [← HS0.out, hml, HN.out] at h; omega
                  have HML := Lib.hid hml
                  have HTOP := Lib.hid (fun k o (h : (ordP t S W)[k]? = some ((o : Nat) : Int)) => by have := ordP_top hsp h; rw [HN.out] at this; exact this)
                  have HTK2 := Lib.hid (fun x (h : x ∈ ordP t S W) => ordP_mem h)
                  have HBD := Lib.hid (base_bd (t := t) (W := W) t0 (by rw [← HS0.out]; exact hsp) (fun x hx => (HW.out x hx).1))
                  have HLEN := Lib.hid (show (ordP t S W).length = k2 by rw [ordP_length, HN.out])
                  have hlt3 : ¬ (k2 : Int) < k2 := by omega
                  rw [hm2]
                  clear HRO HRD HTW HLB hml hA0 hm hm2 HTK HBS bA
                  rename World => W1
                  go_wp2
                  go_loopw [13] (fun lv wz => ∃ (k j : Nat), k + j = m ∧ lv = .int .i64 j ∧ RowI Wo.heap.size g1 k2 c1 (bump (baseP t S W) ((ordP t S W).take k)) wz ∧ RowI Wo.heap.size g2 k2 c2 (mark (rstP t S W) ((ordP t S W).take k)) wz ∧ Below Wo.heap.size Wo wz) (fun lv _ => (intOf lv).toNat)
                  case atStart => exact ⟨0, m, by omega, rfl, HRU.out, HRI.out, HBQ.out⟩
                  case round =>
                    obtain ⟨k3, j3, hk3, rfl, hru, hri, hbz⟩ := hrel
                    have HRU3 := Lib.hid hru
                    have HRI3 := Lib.hid hri
                    have HBZ := Lib.hid hbz
                    clear hru hri hbz
                    by_cases hj3 : 0 < j3
                    · obtain ⟨j, rfl⟩ : ∃ j, j3 = j + 1 := ⟨j3 - 1, by omega⟩
                      obtain ⟨o', ho'⟩ : ∃ x, (ordP t S W)[k3]? = some x := ⟨_, List.getElem?_eq_getElem (by have := HLEN.out; omega)⟩
                      have bo := HTK2.out o' (List.mem_of_getElem? ho')
                      rw [HN.out] at bo
                      obtain ⟨o, rfl⟩ := Int.eq_ofNat_of_zero_le bo.1
                      have HO := Lib.hid ho'
                      have HTO := Lib.hid (HTOP.out k3 o ho')
                      have ho2 : o < k2 := by omega
                      obtain ⟨R, hR⟩ : ∃ R, mark (rstP t S W) ((ordP t S W).take k3) = R := ⟨_, rfl⟩
                      rw [hR] at HRI3 HTO
                      have HR := Lib.hid hR
                      clear ho' bo hR hj3
                      rename World => W2
                      go_wp2
                      go_loopw [16, 86] (fun bv iv wi => ∃ (b i q : Nat), i ≤ k2 ∧ b < k2 ∧ bv = .int .i64 b ∧ iv = .int .i64 i ∧ Best R b i ∧ wi = W2.drewN q) (fun _ iv _ => k2 - (intOf iv).toNat)
                      case atStart => exact ⟨0, 0, 0, by omega, by omega, rfl, rfl, best_zero R, rfl⟩
                      case round =>
                        obtain ⟨b3, i3, q3, hi3, hb3, rfl, rfl, hbest, rfl⟩ := hrel
                        have HBEST := Lib.hid hbest
                        clear hbest
                        obtain ⟨y, hy⟩ : ∃ y, R[b3]? = some y := ⟨_, List.getElem?_eq_getElem (by rw [HRI3.out.2]; omega)⟩
                        have cy := (HRI3.out.at_ hy).1
                        have cyd := ((HRI3.out.drewN q3).at_ hy).1
                        have hb3z : (b3 : Int) < k2 := by omega
                        by_cases hlt3 : i3 < k2
                        · obtain ⟨x, hx⟩ : ∃ x, R[i3]? = some x := ⟨_, List.getElem?_eq_getElem (by rw [HRI3.out.2]; omega)⟩
                          have cx := (HRI3.out.at_ hx).1
                          have hi3z : (i3 : Int) < k2 := by omega
                          have HX := Lib.hid hx
                          have HY := Lib.hid hy
                          clear hx hy
                          go_wp2
                          go_quiet (fail)
                          by_cases hxy : y < x
                          · go_wp2
                            go_roundw
                            case rel => exact ⟨i3, i3 + 1, _, by omega, by omega, by go_num, by go_num, best_up HBEST.out HY.out HX.out hxy, rfl⟩
                            case measure => simp [intOf]; omega
                          · go_wp2
                            go_roundw
                            case rel => exact ⟨b3, i3 + 1, _, by omega, by omega, by go_num, by go_num, best_stay HBEST.out HY.out HX.out (by omega), rfl⟩
                            case measure => simp [intOf]; omega
                        · have hi3e : i3 = k2 := by omega
                          subst hi3e
                          have hbo := best_one HRI3.out.2 hb3 ho2 HBEST.out HTO.out
                          subst hbo
                          obtain ⟨z, hz⟩ : ∃ z, (bump (baseP t S W) ((ordP t S W).take k3))[b3]? = some z := ⟨_, List.getElem?_eq_getElem (by rw [HRU3.out.2]; omega)⟩
                          obtain ⟨cz, fz⟩ := (HRU3.out.drewN q3).at_ hz
                          have fy := ((HRI3.out.drewN q3).at_ hy).2
                          have bz := bump_bd (baseP t S W) ((ordP t S W).take k3) (B := t) (by rw [HS0.out]; exact HBD.out) z (List.mem_of_getElem? hz)
                          have hlk : ((ordP t S W).take k3).length ≤ k3 := by rw [List.length_take]; omega
                          obtain ⟨su, gu⟩ := (HRU3.out.drewN q3).set b3 (z + 1)
                          have ru := (HRI3.out.drewN q3).1.kept gu (.inr (by simpa [Value.ownBlock] using Ne.symm hgg))
                          obtain ⟨si, gi⟩ := RowI.set (L := R) ⟨ru, HRI3.out.2⟩ b3 (-1)
                          have ru2 := su.1.kept gi (.inr (by simpa [Value.ownBlock] using hgg))
                          have HSU := Lib.hid (show RowI Wo.heap.size g1 i3 c1 (bump (baseP t S W) ((ordP t S W).take (k3 + 1))) _ from by
                            have hbump : bump (baseP t S W) ((ordP t S W).take (k3 + 1)) = (bump (baseP t S W) ((ordP t S W).take k3)).set b3 (z + 1) := by
                              rw [take_snocZ HO.out, bump_append]
                              simp [bump, List.getD_eq_getElem?_getD, hz]
                            rw [hbump]; exact ⟨ru2, su.2⟩)
                          have HSI := Lib.hid (show RowI Wo.heap.size g2 i3 c2 (mark (rstP t S W) ((ordP t S W).take (k3 + 1))) _ from by
                            have hmark : mark (rstP t S W) ((ordP t S W).take (k3 + 1)) = R.set b3 (-1) := by
                              rw [take_snocZ HO.out, mark_append, HR.out]
                              simp [mark]
                            rw [hmark]; exact si)
                          have HBF := Lib.hid (bset (bset (below_drewZ HBZ.out q3) (p := ⟨g1, b3, none⟩) hg1 (.int .i64 (z + 1))) (p := ⟨g2, b3, none⟩) hg2' (.int .i64 (-1)))
                          have cy2 : ((W2.drewN q3).setCell ⟨g1, b3, none⟩ (.int .i64 (z + 1))).cell? ⟨g2, b3, none⟩ = some (.int .i64 y) := (gu.cell cyd (by simpa using Ne.symm hgg))
                          have fy2 : ((W2.drewN q3).setCell ⟨g1, b3, none⟩ (.int .i64 (z + 1))).frozen? ⟨g2, b3, none⟩ = false := by rw [World.frozen?_setCell]; exact fy
                          have z0 : 0 ≤ z := bz.1
                          have z1 : z ≤ 2000000000000 := by omega
                          have hlt4 : ¬ (i3 : Int) < i3 := by omega
                          have hj1 : (0 : Int) < ((j + 1 : Nat) : Int) := by omega
                          clear su gu ru si gi ru2 hz hy bz hlk
                          go_wp2
                          go_roundw
                          case rel => exact ⟨k3 + 1, j, by omega, by go_num, HSU.out, HSI.out, HBF.out⟩
                          case measure => simp [intOf]
                    · have hj0 : j3 = 0 := by omega
                      subst hj0
                      have hkm : k3 = m := by omega
                      subst hkm
                      have HRF := Lib.hid (show RowI Wo.heap.size g1 k2 c1 (partsR t S W) wr from by rw [partsR, HML.out]; exact HRU3.out)
                      go_wp2
                      go_ret2
                      rw [HE1.out, HL.out]
                      exact ⟨_, rfl, Sl.own encI_len (by rw [flatI]; exact HRF.out.1) HRF.out.2 (fun b h => h), HBZ.out⟩
end Go.Proofs.Ytkkgipcidbgbhaa
