/- MoneyParts: the law's walk. -/
import Derived.Test.YtkkgipcidbgbhaaAwake
import Derived.Test.YtkkgipcidbgbhaaMonC
namespace Go.Proofs.Ytkkgipcidbgbhaa
open Go.RowKit
set_option linter.unusedVariables false
set_option linter.unusedSimpArgs false
theorem mem4 {a b c d x : Int} (h : x ∈ [a, b, c, d]) : x = a ∨ x = b ∨ x = c ∨ x = d := by simpa using h
theorem partsE_ok {t : Int} {W : List Int} (t0 : 0 ≤ t ∧ t ≤ 1000000000000) (hw : ∀ x ∈ W, 0 ≤ x ∧ x ≤ 1000000) (hl : W.length ≤ 200) (hs : 0 < sumI W) : partsE t W = 0 ∧ partsL t W = partsR t (sumI W) W := by
  have h1 : inB t 0 1000000000000 = true := inB_iff.2 t0
  have h2 : (W.any fun w => !wgB w) = false := by
    rw [List.any_eq_false]
    intro x hx
    rw [show wgB x = true from inB_iff.2 (hw x hx)]; simp
  have h3 : partsE t W = 0 := by unfold partsE; rw [h1, h2]; simp; omega
  refine ⟨h3, ?_⟩
  unfold partsL
  rw [h3, if_pos rfl]
set_option maxRecDepth 100000 in
set_option maxHeartbeats 8000000 in
theorem parts_walk (ao : Option Addr) (m c : Nat) (w : World) (hm : m ≤ c) (hc : c ≤ maxLen) (hz : m = 0 ∨ ∃ b off, ao = some ⟨b, off, none⟩ ∧ ∀ i, i < m → ∃ z : Int, w.cell? ⟨b, off + i, none⟩ = some (.int .i64 z)) :
    Calls Try.prog 5 #[.slice ao m c] w fun e w' => e = .returned (.bool true) ∧ Below w.heap.size w w' := by
  obtain ⟨i1, hi, hz0, hz1, hz2⟩ := info_parts infoInt
  have HNEW := Lib.hid (tnew_any ao m c w hm hc hz)
  clear hm hc hz
  go_enter Try.func5, Try.ntmps5
  go_wp2_with fail
  refine HNEW.out.mono ?_
  rintro e w1 ⟨sb, rfl, hsb, hS1, hB1⟩
  go_wp2_with fail
  refine (tn_any sb _ _ hS1 (by omega) (by omega)).mono ?_
  rintro e w2 ⟨x1, hx1, rfl, hS2, hG2⟩
  go_wp2_with fail
  refine (tn_any sb _ _ hS2 (by omega) (by omega)).mono ?_
  rintro e w3 ⟨x2, hx2, rfl, hS3, hG3⟩
  go_wp2_with fail
  refine (tn_any sb _ _ hS3 (by omega) (by omega)).mono ?_
  rintro e w4 ⟨x3, hx3, rfl, hS4, hG4⟩
  have b4 := bgr (bgr (bgr hB1 hG2 hsb) hG3 hsb) hG4 hsb
  clear hB1 hG2 hG3 hG4 hS1 hS2 hS3
  go_wp2_with fail
  refine (tpick_lit sb [x1, x2, 1000000000000, 1000000000000 - x3] _ _ 4 w4 hS4 (by omega) (by omega) rfl rfl rfl).mono ?_
  rintro e w5 ⟨t, ht, rfl, hS5, hG5⟩
  have tb : 0 ≤ t ∧ t ≤ 1000000000000 := by rcases mem4 ht with h | h | h | h <;> omega
  have b5 := bgr b4 hG5 hsb
  clear ht hG5 hS4 b4 hx1 hx2 hx3
  go_wp2_with fail
  refine (tn_any sb _ _ hS5 (by omega) (by omega)).mono ?_
  rintro e w6 ⟨n0, ⟨n1, n2⟩, rfl, hS6, hG6⟩
  have b6 := bgr b5 hG6 hsb
  have hlt := srcOk_lt hS6
  clear b5 hG6 hS5
  obtain ⟨N0, rfl⟩ := Int.eq_ofNat_of_zero_le n1
  go_wp2
  go_loopw [5, 7] (fun v kv wr => ∃ (L : List Int) (k : Nat), kv = .int .i64 k ∧ L.length + k ≤ 7 ∧ (∀ x ∈ L, 0 ≤ x ∧ x ≤ 1000000) ∧ wr.ownsRow w6.heap.size 3 1 v L.length (L.map cI) ∧ SrcOk wr sb ∧ Below w.heap.size w wr ∧ w6.heap.size ≤ wr.heap.size) (fun _ kv _ => (intOf kv).toNat)
  case atStart => exact ⟨[], N0, rfl, by show 0 + N0 ≤ 7; omega, by simp, World.ownsRow_nil _ _ _ _, hS6, b6, Nat.le_refl _⟩
  case round =>
    obtain ⟨L, k, rfl, hk, hL, hown, hSr, hbr, hzr⟩ := hrel
    have HL := Lib.hid hL
    have HB := Lib.hid hbr
    clear hL hbr
    by_cases hk0 : 0 < k
    · obtain ⟨j, rfl⟩ : ∃ j, k = j + 1 := ⟨k - 1, by omega⟩
      clear hk0
      go_wp2_with fail
      refine (tn_any sb _ _ hSr (by omega) (by omega)).mono ?_
      rintro e w7 ⟨y1, hy1, rfl, hS7, hG7⟩
      have hown7 := town_grown hown hG7 hlt
      have HB7 := Lib.hid (bgr HB.out hG7 hsb)
      have z7 := hG7.size
      clear hown hSr hG7
      go_wp2_with fail
      refine (tn_any sb _ _ hS7 (by omega) (by omega)).mono ?_
      rintro e w8 ⟨y2, hy2, rfl, hS8, hG8⟩
      have hown8 := town_grown hown7 hG8 hlt
      have HB8 := Lib.hid (bgr HB7.out hG8 hsb)
      have z8 := hG8.size
      clear hown7 hS7 hG8
      go_wp2_with fail
      refine (tpick_lit sb [0, 1, y1, y2] _ _ 4 w8 hS8 (by omega) (by omega) rfl rfl rfl).mono ?_
      rintro e w9 ⟨x, hx, rfl, hS9, hG9⟩
      have xb : 0 ≤ x ∧ x ≤ 1000000 := by rcases mem4 hx with h | h | h | h <;> omega
      have hown9 := town_grown hown8 hG9 hlt
      have HB9 := Lib.hid (bgr HB8.out hG9 hsb)
      have z9 := hG9.size
      have HX := Lib.hid xb
      clear hown8 hS8 hG9 hx hy1 hy2 xb
      go_wp2_with (at_builtin; go_must (refine wpList_append_own _ rfl _ _ 22 rfl w6.heap.size 3 i1 (.int .i64 0) 1 8 Try.underlying22 hi hz0 hz1 hz2 rfl (by decide) _ _ _ rfl (hown9.alloc _) ⟨w9.heap.size, 0, none⟩ 1 1 [.int .i64 x] rfl rfl (news1 _ _ _) (one1 _ _) (by unfold maxLen; omega) (by omega) (by simp; omega) ?_); intro v' w10 hown' hgrow _; have hB10 : Below w6.heap.size w9 w10 := ((Below.refl _ _).alloc (by omega) _).grown hgrow (by simp; omega) (fun q hq => (hown9.lt q hq).1); have hz10 := hB10.size)
      go_roundw
      case rel => exact ⟨L ++ [x], j, by go_num, by simp; omega, fun y hy => by
        rcases List.mem_append.1 hy with h | h
        · exact HL.out y h
        · rw [List.mem_singleton.1 h]; exact HX.out, by rw [List.map_append, List.length_append]; exact hown', srcOk_below hS9 hB10 hlt, HB9.out.trans (hB10.mono (by omega)), by omega⟩
      case measure => simp [intOf]
    · have hk1 : k = 0 := by omega
      subst hk1
      have HO := Lib.hid hown
      obtain ⟨n, hn⟩ : ∃ n, L.length = n := ⟨_, rfl⟩
      rw [hn] at hk hown
      have HN := Lib.hid hn
      clear HO hn
      rename World => W0
      go_wp2_with (at_builtin; go_must (refine wpList_append_own _ rfl _ _ 22 rfl w6.heap.size 3 i1 (.int .i64 0) 1 8 Try.underlying22 hi hz0 hz1 hz2 rfl (by decide) _ _ _ rfl (hown.alloc _) ⟨W0.heap.size, 0, none⟩ 1 1 [.int .i64 1] rfl rfl (news1 _ _ _) (one1 _ _) (by unfold maxLen; omega) (by omega) (by simp; omega) ?_); intro v' w10 hown' hgrow _; have hB10 : Below w6.heap.size W0 w10 := ((Below.refl _ _).alloc (by omega) _).grown hgrow (by simp; omega) (fun q hq => (hown.lt q hq).1); have hz10 := hB10.size; obtain ⟨g, cp, rfl, hg, hgz⟩ := hown'.form (by omega); have HOW := Lib.hid (show RowI w6.heap.size g (n + 1) cp (L ++ [1]) w10 from ⟨by rw [List.map_append]; exact hown', by simp [HN.out]⟩); have hcap := hown'.cap_le; have HB10 := Lib.hid (HB.out.trans (hB10.mono (by omega))); clear hown' hgrow hB10 hown)
      have HSUM := Lib.hid (fun k => sum_take (W := L) HL.out k)
      go_loopw [6, 54] (fun sv iv wr => ∃ k : Nat, k ≤ n ∧ iv = .int .i64 k ∧ sv = .int .i64 (1 + sumI (L.take k)) ∧ wr = w10) (fun _ iv _ => n - (intOf iv).toNat)
      case atStart => exact ⟨0, by omega, rfl, by simp [sumI], by first | trivial | rfl⟩
      case round =>
        obtain ⟨k, hkn, rfl, rfl, rfl⟩ := hrel
        rename World => W1
        have sb1 := HSUM.out k
        have sb2 := HSUM.out (k + 1)
        rw [HN.out] at sb1 sb2
        by_cases hlt2 : k < n
        · obtain ⟨x, hx⟩ : ∃ x, L[k]? = some x := ⟨_, List.getElem?_eq_getElem (by have := HN.out; omega)⟩
          have hx2 : (L ++ [1])[k]? = some x := by rw [List.getElem?_append_left (by have := HN.out; omega)]; exact hx
          have cx := (HOW.out.at_ hx2).1
          have HS1 := Lib.hid (show sumI (L.take (k + 1)) = sumI (L.take k) + x by rw [take_snocZ hx, sumI_append]; simp [sumI])
          rw [HS1.out] at sb2
          obtain ⟨A, hA⟩ : ∃ A, sumI (L.take k) = A := ⟨_, rfl⟩
          rw [hA] at sb1 sb2
          have bx := HL.out x (List.mem_of_getElem? hx)
          have hlt3 : (k : Int) < n := by omega
          clear hx hx2
          go_wp2
          go_roundw
          case rel => exact ⟨k + 1, by omega, by go_num, by rw [HS1.out, hA]; go_num, by first | trivial | rfl⟩
          case measure => simp [intOf]; omega
        · have hkn2 : k = n := by omega
          subst hkn2
          have HS2 := Lib.hid (show 1 + sumI (L.take k) = sumI (L ++ [1]) by rw [take_all (by have := HN.out; omega), sumI_append]; simp [sumI]; omega)
          have HWB := Lib.hid (show ∀ x ∈ L ++ [1], 0 ≤ x ∧ x ≤ 1000000 from fun x hx => by
            rcases List.mem_append.1 hx with h | h
            · exact HL.out x h
            · rw [List.mem_singleton.1 h]; omega)
          have HLEN := Lib.hid (show (L ++ [1]).length = k + 1 by simp [HN.out])
          obtain ⟨S, hS⟩ : ∃ S, sumI (L ++ [1]) = S := ⟨_, rfl⟩
          have hS0 : 0 < S := by rw [← hS, ← HS2.out]; omega
          have hS1 : S ≤ 10000000 := by rw [← hS, ← HS2.out]; omega
          rw [hS] at HS2
          have hS2 := HS2.out
          have HPE := Lib.hid (partsE_ok (t := t) (W := L ++ [1]) tb HWB.out (by have := HLEN.out; omega) (by rw [hS]; exact hS0))
          have HPF := Lib.hid (parts_fair (t := t) (W := L ++ [1]) tb.1 (by rw [hS]; exact hS0) (fun x hx => (HWB.out x hx).1))
          have HTK := Lib.hid (fun j => HPF.out.take tb.1 (by rw [hS]; exact hS0) (fun x hx => (HWB.out x hx).1) j)
          have HPA := Lib.hid (parts_any t (fun b => w6.heap.size ≤ b) (.slice (some ⟨g, 0, none⟩) (k + 1) cp) (L ++ [1]) W1 (Sl.own encI_len (by rw [flatI]; exact HOW.out.1) HLEN.out (fun b h => h)) (by have := HLEN.out; omega))
          obtain ⟨p, hp⟩ : ∃ p, partsR t (sumI (L ++ [1])) (L ++ [1]) = p := ⟨_, rfl⟩
          rw [hp] at HPE HPF HTK
          go_wp2_with (go_at_call 34; (refine HPA.out.mono ?_); (rw [HPE.out.1, HPE.out.2]); (rintro e w11 ⟨v, rfl, hsv, hb11⟩); (have HSV := Lib.hid hsv); (have HOW2 := Lib.hid (show RowI w6.heap.size g (k + 1) cp (L ++ [1]) w11 from ⟨ownsRow_belowZ HOW.out.1 hb11, HOW.out.2⟩)); (have HB11 := Lib.hid (bup HB10.out hb11)); (obtain ⟨ao2, n2, c2, rfl, hn2, hnc2, hcm2⟩ := hsv.shape); (have hn3 : n2 = k + 1 := by rw [← hn2, HPF.out.len, HLEN.out]); (subst hn3); (clear hsv hb11 hn2))
          have HGET := Lib.hid (show ∀ j, j < k + 1 → ∃ v x, (L ++ [1])[j]? = some v ∧ p[j]? = some x ∧ t * v / S ≤ x ∧ x ≤ t * v / S + 1 ∧ (t * v % S = 0 → x = t * v / S) ∧ (v = 0 → x = 0) from fun j hj => by
            obtain ⟨v, hv⟩ : ∃ v, (L ++ [1])[j]? = some v := ⟨_, List.getElem?_eq_getElem (by have := HLEN.out; omega)⟩
            obtain ⟨x, h⟩ := HPF.out.get j v hv
            rw [hS] at h
            exact ⟨v, x, hv, h⟩)
          have hs0 : (S == 0) = false := by simp; omega
          have hs1 : ¬ S = 0 := by omega
          go_loopw [12, 79] (fun av iv wr => ∃ (j q : Nat), j ≤ k + 1 ∧ iv = .int .i64 j ∧ av = .int .i64 (sumI (p.take j)) ∧ wr = w11.drewN q) (fun _ iv _ => k + 1 - (intOf iv).toNat)
          case atStart => exact ⟨0, 0, by omega, rfl, by simp [sumI], rfl⟩
          case round =>
            obtain ⟨j, q, hj, rfl, rfl, rfl⟩ := hrel
            have tk1 := HTK.out j
            have tk2 := HTK.out (j + 1)
            by_cases hjl : j < k + 1
            · obtain ⟨v, x, hv, hx, g1, g2, g3, g4⟩ := HGET.out j hjl
              have cv := (HOW2.out.at_ hv).1
              obtain ⟨b, off, x', rfl, -, -, hx', cx⟩ := HSV.out.int hjl
              cases hx.symm.trans hx'
              have bv := HWB.out v (List.mem_of_getElem? hv)
              have HTA := Lib.hid (show sumI (p.take (j + 1)) = sumI (p.take j) + x by rw [take_snocZ hx, sumI_append]; simp [sumI])
              rw [HTA.out] at tk2
              obtain ⟨A, hA⟩ : ∃ A, sumI (p.take j) = A := ⟨_, rfl⟩
              rw [hA] at tk1 tk2 HTA ⊢
              clear hA
              have HPR := Lib.hid (fun i u y (hu : (L ++ [1])[i]? = some u) (hy : p[i]? = some y) (h : u < v) => HPF.out.pair j i v u x y hv hu hx hy h)
              have pb := mul_bd tb.1 tb.2 bv.1 bv.2
              have e1 : (t * v).tdiv S = t * v / S := Int.tdiv_eq_ediv_of_nonneg pb.1
              have e2 : (t * v).tmod S = t * v % S := Int.tmod_eq_emod_of_nonneg pb.1
              have e3 : 0 ≤ t * v / S := Int.ediv_nonneg pb.1 (by omega)
              have e4 : 0 ≤ t * v % S := Int.emod_nonneg _ (by omega)
              have e5 : t * v % S < S := Int.emod_lt_of_pos _ hS0
              obtain ⟨P, hP⟩ : ∃ P, t * v = P := ⟨_, rfl⟩
              rw [hP] at pb e1 e2 e3 e4 e5 g1 g2 g3
              obtain ⟨B, hB⟩ : ∃ B, P / S = B := ⟨_, rfl⟩
              obtain ⟨R, hR⟩ : ∃ R, P % S = R := ⟨_, rfl⟩
              rw [hB] at e1 e3 g1 g2 g3
              rw [hR] at e2 e4 e5 g3
              have xb : 0 ≤ x ∧ x ≤ 1000000000000 := by omega
              have r1 : IntKind.i64.wrap P = P := IntWalk.i64_in _ (by omega)
              have r2 : IntKind.i64.wrap B = B := IntWalk.i64_in _ (by omega)
              have r3 : IntKind.i64.wrap R = R := IntWalk.i64_in _ (by omega)
              have r4 : IntKind.i64.wrap (B + 1) = B + 1 := IntWalk.i64_in _ (by omega)
              have r5 : IntKind.i64.wrap (A + x) = A + x := IntWalk.i64_in _ (by omega)
              have d1 : decide (x < B) = false := by simp; omega
              have d2 : decide (B + 1 < x) = false := by simp; omega
              have hj3 : (j : Int) < k + 1 := by omega
              have hj4 : (j : Int) < ((k + 1 : Nat) : Int) := by omega
              clear hv hx hx' g1 g2
              by_cases hv0 : v = 0
              · have hx0 := g4 hv0
                have hP0 : P = 0 := by rw [← hP, hv0]; simp
                have hB0 : B = 0 := by rw [← hB, hP0]; simp
                have hR0 : R = 0 := by rw [← hR, hP0]; simp
                clear g3 g4 d1 d2 hB hR e1 e2 r1 r2 r3 r4
                subst hv0 hx0 hP0 hB0 hR0
                go_wp2
                go_loopw [146] (fun iv wr => ∃ (i q2 : Nat), i ≤ k + 1 ∧ iv = .int .i64 i ∧ wr = w11.drewN q2) (fun iv _ => k + 1 - (intOf iv).toNat)
                case atStart => exact ⟨0, q, by omega, rfl, by first | trivial | rfl⟩
                case round =>
                  obtain ⟨i, q2, hi', rfl, rfl⟩ := hrel
                  by_cases hil : i < k + 1
                  · obtain ⟨u, y, hu, hy, f1, f2, f3, f4⟩ := HGET.out i hil
                    have cu := (HOW2.out.at_ hu).1
                    obtain ⟨b2, off2, y', hb2, -, -, hy', cy⟩ := HSV.out.int hil
                    cases hb2
                    cases hy.symm.trans hy'
                    have hpr := HPR.out i u y hu hy
                    have hil3 : (i : Int) < k + 1 := by omega
                    have hil4 : (i : Int) < ((k + 1 : Nat) : Int) := by omega
                    clear hu hy hy' f1 f2 f3 f4
                    by_cases huv : u < 0
                    · have hyx := hpr huv
                      have d6 : decide (0 < y) = false := by simp; omega
                      have d7 : decide (u < 0) = true := by simp; omega
                      clear hpr
                      go_wp2
                      go_quiet (fail)
                      go_wp2
                      go_roundw
                      case rel => exact ⟨i + 1, _, by omega, by go_num, rfl⟩
                      case measure => simp [intOf]; omega
                    · have d7 : decide (u < 0) = false := by simp; omega
                      clear hpr
                      go_wp2
                      go_quiet (fail)
                      go_wp2
                      go_roundw
                      case rel => exact ⟨i + 1, _, by omega, by go_num, rfl⟩
                      case measure => simp [intOf]; omega
                  · go_wp2
                    go_roundw
                    case rel => exact ⟨j + 1, q2, by omega, by go_num, by rw [HTA.out] <;> first | rfl | go_num, by first | trivial | rfl⟩
                    case measure => simp [intOf]; omega
              · have d3 : (v == 0) = false := by simpa using hv0
                by_cases hR0 : R = 0
                · have hxB := g3 hR0
                  have d4 : (R == 0) = true := by simpa using hR0
                  clear g3 g4 d1 d2 hB hR
                  subst hxB hR0
                  have d1 : decide (x < x) = false := by simp
                  have d2 : decide (x + 1 < x) = false := by simp; omega
                  go_wp2
                  go_loopw [146] (fun iv wr => ∃ (i q2 : Nat), i ≤ k + 1 ∧ iv = .int .i64 i ∧ wr = w11.drewN q2) (fun iv _ => k + 1 - (intOf iv).toNat)
                  case atStart => exact ⟨0, q, by omega, rfl, by first | trivial | rfl⟩
                  case round =>
                    obtain ⟨i, q2, hi', rfl, rfl⟩ := hrel
                    by_cases hil : i < k + 1
                    · obtain ⟨u, y, hu, hy, f1, f2, f3, f4⟩ := HGET.out i hil
                      have cu := (HOW2.out.at_ hu).1
                      obtain ⟨b2, off2, y', hb2, -, -, hy', cy⟩ := HSV.out.int hil
                      cases hb2
                      cases hy.symm.trans hy'
                      have hpr := HPR.out i u y hu hy
                      have hil3 : (i : Int) < k + 1 := by omega
                      have hil4 : (i : Int) < ((k + 1 : Nat) : Int) := by omega
                      clear hu hy hy' f1 f2 f3 f4
                      by_cases huv : u < v
                      · have hyx := hpr huv
                        have d6 : decide (x < y) = false := by simp; omega
                        have d7 : decide (u < v) = true := by simp; omega
                        clear hpr
                        go_wp2
                        go_quiet (fail)
                        go_wp2
                        go_roundw
                        case rel => exact ⟨i + 1, _, by omega, by go_num, rfl⟩
                        case measure => simp [intOf]; omega
                      · have d7 : decide (u < v) = false := by simp; omega
                        clear hpr
                        go_wp2
                        go_quiet (fail)
                        go_wp2
                        go_roundw
                        case rel => exact ⟨i + 1, _, by omega, by go_num, rfl⟩
                        case measure => simp [intOf]; omega
                    · go_wp2
                      go_roundw
                      case rel => exact ⟨j + 1, q2, by omega, by go_num, by rw [HTA.out] <;> first | rfl | go_num, by first | trivial | rfl⟩
                      case measure => simp [intOf]; omega
                · have d4 : (R == 0) = false := by simpa using hR0
                  clear g3 g4 hB hR
                  go_wp2
                  go_loopw [146] (fun iv wr => ∃ (i q2 : Nat), i ≤ k + 1 ∧ iv = .int .i64 i ∧ wr = w11.drewN q2) (fun iv _ => k + 1 - (intOf iv).toNat)
                  case atStart => exact ⟨0, q, by omega, rfl, by first | trivial | rfl⟩
                  case round =>
                    obtain ⟨i, q2, hi', rfl, rfl⟩ := hrel
                    by_cases hil : i < k + 1
                    · obtain ⟨u, y, hu, hy, f1, f2, f3, f4⟩ := HGET.out i hil
                      have cu := (HOW2.out.at_ hu).1
                      obtain ⟨b2, off2, y', hb2, -, -, hy', cy⟩ := HSV.out.int hil
                      cases hb2
                      cases hy.symm.trans hy'
                      have hpr := HPR.out i u y hu hy
                      have hil3 : (i : Int) < k + 1 := by omega
                      have hil4 : (i : Int) < ((k + 1 : Nat) : Int) := by omega
                      clear hu hy hy' f1 f2 f3 f4
                      by_cases huv : u < v
                      · have hyx := hpr huv
                        have d6 : decide (x < y) = false := by simp; omega
                        have d7 : decide (u < v) = true := by simp; omega
                        clear hpr
                        go_wp2
                        go_quiet (fail)
                        go_wp2
                        go_roundw
                        case rel => exact ⟨i + 1, _, by omega, by go_num, rfl⟩
                        case measure => simp [intOf]; omega
                      · have d7 : decide (u < v) = false := by simp; omega
                        clear hpr
                        go_wp2
                        go_quiet (fail)
                        go_wp2
                        go_roundw
                        case rel => exact ⟨i + 1, _, by omega, by go_num, rfl⟩
                        case measure => simp [intOf]; omega
                    · go_wp2
                      go_roundw
                      case rel => exact ⟨j + 1, q2, by omega, by go_num, by rw [HTA.out] <;> first | rfl | go_num, by first | trivial | rfl⟩
                      case measure => simp [intOf]; omega
            · have hjk : j = k + 1 := by omega
              subst hjk
              have HT := Lib.hid (show sumI (p.take (k + 1)) = t by rw [take_all (by have := HPF.out.len; have := HLEN.out; omega)]; exact HPF.out.sum)
              rw [HT.out]
              go_wp2_with (go_at_call 35; refine (awake_any _).mono ?_; rintro e w12 ⟨rfl, hb12⟩)
              go_ret
              exact ⟨rfl, bup (below_drewZ HB11.out q) hb12⟩
end Go.Proofs.Ytkkgipcidbgbhaa
