/- MoneyAnswers: the law's walk. -/
import Derived.Test.YtkkgipcidbgbhaaMRefB
import Derived.Deep.RegionHeld3
namespace Go.Proofs.Ytkkgipcidbgbhaa
open Go.RowKit
set_option linter.unusedVariables false
set_option linter.unusedSimpArgs false
/-- a slice of numbers that came in -/
theorem sl_in (ao : Option Addr) (m c : Nat) (w : World) (hm : m ≤ c) (hc : c ≤ maxLen) (hz : m = 0 ∨ ∃ b off, ao = some ⟨b, off, none⟩ ∧ ∀ i, i < m → ∃ z : Int, w.cell? ⟨b, off + i, none⟩ = some (.int .i64 z)) :
    ∃ L : List Int, Sl 1 encI (fun b => b < w.heap.size) w (.slice ao m c) L ∧ L.length = m := by
  rcases hz with rfl | ⟨b, off, rfl, h⟩
  · exact ⟨[], ⟨_, _, _, rfl, rfl, hm, hc, .inl rfl⟩, rfl⟩
  by_cases h0 : m = 0
  · subst h0; exact ⟨[], ⟨_, _, _, rfl, rfl, hm, hc, .inl rfl⟩, rfl⟩
  · have hx : ∀ i : Fin m, ∃ z : Int, w.cell? ⟨b, off + i, none⟩ = some (.int .i64 z) := fun i => h i i.2
    let f : Fin m → Int := fun i => Classical.choose (hx i)
    have hf : ∀ i : Fin m, w.cell? ⟨b, off + i, none⟩ = some (.int .i64 (f i)) := fun i => Classical.choose_spec (hx i)
    have hb := World.block_lt_of_cell? w _ (hf ⟨0, by omega⟩)
    refine ⟨List.ofFn f, ⟨_, _, _, rfl, by simp, hm, hc, .inr ⟨b, off, rfl, hb, hb, fun j a hj i u hi => ?_⟩⟩, by simp⟩
    obtain ⟨hj1, rfl⟩ := List.getElem?_eq_some_iff.1 hj
    simp at hj1
    match i, hi with
    | 0, hi =>
      simp only [encI, List.getElem?_cons_zero, Option.some.injEq] at hi
      subst hi
      simpa using hf ⟨j, hj1⟩
theorem grownBy_undrew {w w' : World} {row : Option Nat} (h : w.drew.grownBy w' row) : w.grownBy w' row := ⟨h.os, h.tape, h.output, h.size, h.block⟩
theorem mem3a {a b c x : Int} (h : x ∈ [a, b, c]) : x = a ∨ x = b ∨ x = c := by simpa using h
theorem row_keep {w w5 WE : World} {sb g : Nat} (hG : w.grownBy w5 (some sb)) (hr : ∀ o, w.cell? ⟨g, o, none⟩ = WE.cell? ⟨g, o, none⟩) (hg : g < w.heap.size) (hne : sb < g) : (∀ o, w5.cell? ⟨g, o, none⟩ = WE.cell? ⟨g, o, none⟩) ∧ g < w5.heap.size :=
  ⟨fun o => ((hG.cell_far ⟨g, o, none⟩ hg (by simp; omega)).trans (hr o)), Nat.lt_of_lt_of_le hg hG.size⟩
set_option maxRecDepth 100000 in
set_option maxHeartbeats 64000000 in
theorem answers_walk (ao : Option Addr) (m c : Nat) (a1 a2 a3 : Int) (bo : Option Addr) (n d : Nat) (w : World) (hm : m ≤ c) (hc : c ≤ maxLen) (hz : m = 0 ∨ ∃ b off, ao = some ⟨b, off, none⟩ ∧ ∀ i, i < m → ∃ z : Int, w.cell? ⟨b, off + i, none⟩ = some (.int .i64 z))
    (hn : n ≤ d) (hd : d ≤ maxLen) (hy : n = 0 ∨ ∃ b off, bo = some ⟨b, off, none⟩ ∧ ∀ i, i < n → ∃ z : Int, w.cell? ⟨b, off + i, none⟩ = some (.int .i64 z)) :
    Calls Try.prog 8 #[.slice ao m c, .int .i64 a1, .int .i64 a2, .int .i64 a3, .slice bo n d] w fun e w' => e = .returned (.bool true) ∧ Below w.heap.size w w' := by
  obtain ⟨i1, hi, hz0, hz1, hz2⟩ := info_parts infoInt
  have HNEW := Lib.hid (tnew_any ao m c w hm hc hz)
  obtain ⟨LL, hSL, hLL⟩ := sl_in bo n d w hn hd hy
  have HSL := Lib.hid hSL
  have HLL := Lib.hid hLL
  clear hm hc hz hy hSL hLL hn hd
  by_cases h300 : 300 < n
  · have hz3 : (300 : Int) < n := by omega
    go_enter Try.func8, Try.ntmps8
    go_wp2_with (go_at_call 35; refine (awake_any _).mono ?_; rintro e w1 ⟨rfl, hb1⟩)
    go_ret
    exact ⟨rfl, hb1⟩
  have hz3 : ¬ (300 : Int) < n := by omega
  go_enter Try.func8, Try.ntmps8
  go_wp2_with fail
  refine HNEW.out.mono ?_
  rintro e w1 ⟨sb, rfl, hsb, hS1, hB1⟩
  go_wp2_with fail
  refine (tn_any sb _ _ hS1 (by omega) (by omega)).mono ?_
  rintro e w2 ⟨n0, hn0, rfl, hS2, hG2⟩
  have b2 := bgr hB1 hG2 hsb
  have hlt := srcOk_lt hS2
  clear hG2 hS1 hB1
  have hEd := litI w2 [a1, a2, a3, 0, 1, 1000000000000, 1000000000001, -1, 1000000000000000, -1000000000000000, 999999999999999, n0, 1000000, 100, 101] 15 rfl (by unfold maxLen; omega) #[.int .i64 a1, .int .i64 a2, .int .i64 a3, .int .i64 0, .int .i64 1, .int .i64 1000000000000, .int .i64 1000000000001, .int .i64 (-1), .int .i64 1000000000000000, .int .i64 (-1000000000000000), .int .i64 999999999999999, .int .i64 n0, .int .i64 1000000, .int .i64 100, .int .i64 101] rfl _ rfl
  have HW3 : ∃ WE, WE = w2.alloc (.cells #[.int .i64 a1, .int .i64 a2, .int .i64 a3, .int .i64 0, .int .i64 1, .int .i64 1000000000000, .int .i64 1000000000001, .int .i64 (-1), .int .i64 1000000000000000, .int .i64 (-1000000000000000), .int .i64 999999999999999, .int .i64 n0, .int .i64 1000000, .int .i64 100, .int .i64 101] 3) := ⟨_, rfl⟩
  obtain ⟨WE, hWE⟩ := HW3
  rw [← hWE] at hEd
  have HED := Lib.hid (show ∀ j, j < 15 → ∃ z : Int, WE.cell? ⟨w2.heap.size, j, none⟩ = some (.int .i64 z) from fun j hj => by
    obtain ⟨b, off, x, he, -, -, hx, hc⟩ := hEd.int (k := j) hj
    cases he
    exact ⟨x, by simpa using hc⟩)
  have HWE := Lib.hid hWE
  have hSE : SrcOk WE sb := by rw [hWE]; exact srcOk_alloc hS2 _
  have hBE : Below w.heap.size w WE := by rw [hWE]; exact bal b2 _
  have hzE : w2.heap.size < WE.heap.size := by rw [hWE]; simp
  clear hEd hWE b2 hS2
  go_wp2
  go_loopw [13] (fun iv wr => ∃ k : Nat, k ≤ 12 ∧ iv = .int .i64 k ∧ SrcOk wr sb ∧ Below w.heap.size w wr ∧ w2.heap.size < wr.heap.size ∧ ∀ o, wr.cell? ⟨w2.heap.size, o, none⟩ = WE.cell? ⟨w2.heap.size, o, none⟩) (fun iv _ => 12 - (intOf iv).toNat)
  case atStart => exact ⟨0, by omega, rfl, HWE.out ▸ hSE, HWE.out ▸ hBE, by simp, fun o => by rw [HWE.out]⟩
  case round =>
    obtain ⟨k, hk, rfl, hSr, hbr, hzr, hed⟩ := hrel
    have HB := Lib.hid hbr
    have HE0 := Lib.hid hed
    clear hbr
    by_cases hlt12 : k < 12
    · have hltz : (k : Int) < 12 := by omega
      go_wp2_with fail
      go_region_held3 (fun w' => ∀ o, w'.cell? ⟨w2.heap.size, o, none⟩ = WE.cell? ⟨w2.heap.size, o, none⟩) (first | exact he7 | exact he6 | exact he5 | exact hed | go_keep)
        (first
          | (go_at_call 33; refine (tn_any sb _ _ ?_ (by omega) (by omega)).mono ?_; exact hS6; rintro e w7 ⟨y7, ⟨y70, y71⟩, rfl, hS7, hG7⟩; obtain ⟨he7, hz7⟩ := row_keep hG7 he6 hz6 hlt; obtain ⟨j7, rfl⟩ := Int.eq_ofNat_of_zero_le y70; obtain ⟨q7, hq7⟩ := HED.out j7 (by omega))
          | (go_at_call 33; refine (tn_any sb _ _ ?_ (by omega) (by omega)).mono ?_; exact hS5; rintro e w6 ⟨y6, ⟨y60, y61⟩, rfl, hS6, hG6⟩; obtain ⟨he6, hz6⟩ := row_keep hG6 he5 hz5 hlt; obtain ⟨j6, rfl⟩ := Int.eq_ofNat_of_zero_le y60; obtain ⟨q6, hq6⟩ := HED.out j6 (by omega))
          | (go_at_call 33; refine (tn_any sb _ _ ?_ (by omega) (by omega)).mono ?_; exact srcOk_drewN hSr 1; rintro e w5 ⟨y5, ⟨y50, y51⟩, rfl, hS5, hG5'⟩; have hG5 := grownBy_undrew hG5'; obtain ⟨he5, hz5⟩ := row_keep hG5 hed hzr hlt; obtain ⟨j5, rfl⟩ := Int.eq_ofNat_of_zero_le y50; obtain ⟨q5, hq5⟩ := HED.out j5 (by omega)))
      all_goals
        obtain ⟨AV, hAV⟩ : ∃ AV, adV q5 q6 = AV := ⟨_, rfl⟩
        obtain ⟨AE, hAE⟩ : ∃ AE, adE q5 q6 = AE := ⟨_, rfl⟩
        obtain ⟨PV, hPV⟩ : ∃ PV, pcV q5 q6 = PV := ⟨_, rfl⟩
        obtain ⟨PE, hPE⟩ : ∃ PE, pcE q5 q6 = PE := ⟨_, rfl⟩
        obtain ⟨SV, hSV⟩ : ∃ SV, shV q5 q6 q7 = SV := ⟨_, rfl⟩
        obtain ⟨SE, hSE⟩ : ∃ SE, shE q5 q6 q7 = SE := ⟨_, rfl⟩
        obtain ⟨VB, hVB⟩ : ∃ VB, inB q5 0 1000000000000 = VB := ⟨_, rfl⟩
        obtain ⟨TB, hTB⟩ : ∃ TB, inB q5 (-1000000000000000) 1000000000000000 = TB := ⟨_, rfl⟩
        have C1 := add_any q5 q6
        have C2 := r01add_any q5 q6
        have C3 := percent_any q5 q6
        have C4 := r01percent_any q5 q6
        have C5 := share_any q5 q6 q7
        have C6 := r01share_any q5 q6 q7
        have C7 := valid_any q5
        have C8 := r01valid_any q5
        have C9 := total_any q5
        have C10 := r01total_any q5
        simp only [hAV, hAE] at C1 C2
        simp only [hPV, hPE] at C3 C4
        simp only [hSV, hSE] at C5 C6
        simp only [hVB] at C7 C8
        simp only [hTB] at C9 C10
        have D1 := Lib.hid C1
        have D2 := Lib.hid C2
        have D3 := Lib.hid C3
        have D4 := Lib.hid C4
        have D5 := Lib.hid C5
        have D6 := Lib.hid C6
        have D7 := Lib.hid C7
        have D8 := Lib.hid C8
        have D9 := Lib.hid C9
        have D10 := Lib.hid C10
        have HB7 := Lib.hid (bgr (bgr (bgr HB.out hG5 hsb) hG6 hsb) hG7 hsb)
        have HE7 := Lib.hid he7
        have HS7 := Lib.hid hS7
        clear C1 C2 C3 C4 C5 C6 C7 C8 C9 C10 hAV hAE hPV hPE hSV hSE hVB hTB hG5 hG6 hG7 hG5' he5 he6 he7 hed hq5 hq6 hq7 hS5 hS6 hS7 hSr
        go_wp2_with fail
        refine (D1.out _).mono ?_
        rintro e w8 ⟨rfl, hb8⟩
        have HB8 := Lib.hid (bup HB7.out hb8)
        have HS8 := Lib.hid (srcOk_below HS7.out hb8 (by omega))
        have HE8 := Lib.hid (fun o => (hb8.cell (p := ⟨w2.heap.size, o, none⟩) hz7).trans (HE7.out o))
        have hz8 := hb8.size
        clear hb8
        go_wp2_with (first
          | (go_at_call 41; refine (D2.out _).mono ?_; rintro e w9 ⟨rfl, rfl⟩)
          | (go_at_call 36; refine (D3.out _).mono ?_; rintro e w9 ⟨rfl, rfl⟩)
          | (go_at_call 42; refine (D4.out _).mono ?_; rintro e w9 ⟨rfl, rfl⟩)
          | (go_at_call 37; refine (D5.out _).mono ?_; rintro e w9 ⟨rfl, rfl⟩)
          | (go_at_call 43; refine (D6.out _).mono ?_; rintro e w9 ⟨rfl, rfl⟩)
          | (go_at_call 44; refine (D7.out _).mono ?_; rintro e w9 ⟨rfl, rfl⟩)
          | (go_at_call 45; refine (D8.out _).mono ?_; rintro e w9 ⟨rfl, rfl⟩)
          | (go_at_call 46; refine (D9.out _).mono ?_; rintro e w9 ⟨rfl, rfl⟩)
          | (go_at_call 47; refine (D10.out _).mono ?_; rintro e w9 ⟨rfl, rfl⟩))
        go_roundw
        case rel => exact ⟨k + 1, by omega, by go_num, HS8.out, HB8.out, by omega, HE8.out⟩
        case measure => simp [intOf]; omega
    · have hk12 : k = 12 := by omega
      subst hk12
      clear hed HE0 HED HWE hSE hBE hzE hzr
      rename World => W0
      go_wp2_with fail
      refine (tn_any sb _ _ hSr (by omega) (by omega)).mono ?_
      rintro e w6 ⟨N1, ⟨N10, N11⟩, rfl, hS6, hG6⟩
      obtain ⟨N1, rfl⟩ := Int.eq_ofNat_of_zero_le N10
      have b6 := bgr HB.out hG6 hsb
      have hlt6 := srcOk_lt hS6
      clear hG6 hSr HB
      go_wp2
      go_loopw [29, 31] (fun v kv wr => ∃ (L : List Int) (k : Nat), kv = .int .i64 k ∧ L.length + k ≤ 6 ∧ wr.ownsRow w6.heap.size 3 1 v L.length (L.map cI) ∧ SrcOk wr sb ∧ Below w.heap.size w wr ∧ w6.heap.size ≤ wr.heap.size) (fun _ kv _ => (intOf kv).toNat)
      case atStart => exact ⟨[], N1, rfl, by show 0 + N1 ≤ 6; omega, World.ownsRow_nil _ _ _ _, hS6, b6, Nat.le_refl _⟩
      case round =>
        obtain ⟨L, k, rfl, hk, hown, hSr, hbr, hzr⟩ := hrel
        have HB := Lib.hid hbr
        clear hbr
        by_cases hk0 : 0 < k
        · obtain ⟨j, rfl⟩ : ∃ j, k = j + 1 := ⟨k - 1, by omega⟩
          clear hk0
          go_wp2_with fail
          refine (tn_any sb _ _ hSr (by omega) (by omega)).mono ?_
          rintro e w8 ⟨y1, hy1, rfl, hS8, hG8⟩
          have hown8 := town_grown hown hG8 hlt6
          have HB8 := Lib.hid (bgr HB.out hG8 hsb)
          have z8 := hG8.size
          clear hown hG8 hSr
          go_wp2_with fail
          refine (tpick_lit sb [0, 1, 2, 1000, 1000000, y1] _ _ 6 w8 hS8 (by omega) (by omega) rfl rfl rfl).mono ?_
          rintro e w10 ⟨b, hb, rfl, hS10, hG10⟩
          have hown10 := town_grown hown8 hG10 hlt6
          have HB10 := Lib.hid (bgr HB8.out hG10 hsb)
          have z10 := hG10.size
          clear hown8 hG10 hS8 hb hy1
          go_wp2_with (at_builtin; go_must (refine wpList_append_lies _ rfl _ _ 22 rfl w6.heap.size 3 i1 (.int .i64 0) 1 8 Try.underlying22 hi hz0 hz1 hz2 rfl (by decide) _ _ _ rfl (hown10.alloc _) ⟨w10.heap.size, 0, none⟩ 1 1 [.int .i64 b] rfl rfl (news1 _ _ _) (one1 _ _) (by omega) (by unfold maxLen; omega) (by omega) (by simp; omega) _ rfl ?_); intro g' c' w11 hown' hgrow _ _; have hB11 : Below w6.heap.size w10 w11 := ((Below.refl _ _).alloc (by omega) _).grown hgrow (by simp; omega) (fun q hq => (hown10.lt q hq).1); have hz11 := hB11.size)
          go_roundw
          case rel => exact ⟨L ++ [b], j, by go_num, by simp; omega, by rw [List.map_append, List.length_append]; exact hown', srcOk_below hS10 hB11 hlt6, HB10.out.trans (hB11.mono (by omega)), by omega⟩
          case measure => simp [intOf]
        · have hk1 : k = 0 := by omega
          subst hk1
          rename World => W0
          have HF0 := Lib.hid (show Sl 1 encI (fun b => b ≠ sb) W0 u29 L from Sl.own encI_len (by rw [flatI]; exact hown) rfl (fun b hb => by omega))
          have hLlen : L.length ≤ 6 := by omega
          clear hown
          go_wp2_with fail
          refine (tpick_lit sb [0, 200, 201] _ _ 3 W0 hSr (by omega) (by omega) rfl rfl rfl).mono ?_
          rintro e w7 ⟨N2, hN2, rfl, hS7, hG7⟩
          have hN3 : 0 ≤ N2 ∧ N2 ≤ 201 := by rcases mem3a hN2 with h | h | h <;> omega
          obtain ⟨N2, rfl⟩ := Int.eq_ofNat_of_zero_le hN3.1
          have b7 := bgr HB.out hG7 hsb
          have hlt7 := srcOk_lt hS7
          have HF1 := Lib.hid (HF0.out.grown hG7 (fun b h => h))
          clear hG7 hSr HB HF0 hN2
          go_wp2
          go_loopw [30, 32] (fun v kv wr => ∃ (M : List Int) (k : Nat), kv = .int .i64 k ∧ M.length + k ≤ 201 ∧ wr.ownsRow w7.heap.size 3 1 v M.length (M.map cI) ∧ Below w7.heap.size w7 wr) (fun _ kv _ => (intOf kv).toNat)
          case atStart => exact ⟨[], N2, rfl, by show 0 + N2 ≤ 201; omega, World.ownsRow_nil _ _ _ _, brefl⟩
          case round =>
            obtain ⟨M, k, rfl, hk2, hown, hbr⟩ := hrel
            have HB := Lib.hid hbr
            have zr := hbr.size
            clear hbr
            by_cases hk0 : 0 < k
            · obtain ⟨j, rfl⟩ : ∃ j, k = j + 1 := ⟨k - 1, by omega⟩
              clear hk0
              go_wp2_with (at_builtin; go_must (refine wpList_append_own _ rfl _ _ 22 rfl w7.heap.size 3 i1 (.int .i64 0) 1 8 Try.underlying22 hi hz0 hz1 hz2 rfl (by decide) _ _ _ rfl (hown.alloc _) ⟨wr.heap.size, 0, none⟩ 1 1 [.int .i64 1] rfl rfl (news1 _ _ _) (one1 _ _) (by unfold maxLen; omega) (by omega) (by simp; omega) ?_); intro v' w10 hown' hgrow _; have HB10 := Lib.hid ((bal HB.out _).grown hgrow (by simp; omega) (fun q hq => (hown.lt q hq).1)); clear hgrow)
              go_roundw
              case rel => exact ⟨M ++ [1], j, by go_num, by simp; omega, by rw [List.map_append, List.length_append]; exact hown', HB10.out⟩
              case measure => simp [intOf]
            · have hk1 : (k : Int) = 0 := by omega
              rw [hk1]
              clear hk1
              rename World => W0
              have HM0 := Lib.hid (show Sl 1 encI (fun b => b ≠ sb) W0 u30 M from Sl.own encI_len (by rw [flatI]; exact hown) rfl (fun b hb => by omega))
              have hMlen : M.length ≤ 201 := by omega
              have HF2 := Lib.hid (HF1.out.below HB.out)
              have HBW := Lib.hid (bup b7 HB.out)
              have HL2 := Lib.hid ((HSL.out.below HBW.out).mono (Q := fun b => b ≠ sb) (fun b h _ => by have := h; omega))
              have hS0 := srcOk_below hS7 HB.out hlt7
              have hn3 : LL.length ≤ 300 := by have := HLL.out; omega
              clear hown HF1 HB hS7
              obtain ⟨fa, fn, fc, rfl, -, -, -⟩ := HF2.out.shape
              obtain ⟨ma, mn, mc, rfl, -, -, -⟩ := HM0.out.shape
              have HW9 : ∃ W9, W9 = W0.alloc (.cells #[.slice bo n d, .slice fa fn fc, .slice ma mn mc] 22) := ⟨_, rfl⟩
              obtain ⟨W9, hW9⟩ := HW9
              have HV := Lib.hid (show ∀ k, k < 3 → ∃ v X, W9.cell? ⟨W0.heap.size, k, none⟩ = some v ∧ Sl 1 encI (fun b => b ≠ sb) W9 v X ∧ X.length ≤ 300 from fun k hk => by
                rw [hW9]
                match k, hk with
                | 0, _ => exact ⟨_, LL, (World.cell?_alloc_at _ _ _ _ rfl).trans rfl, HL2.out.alloc _, by omega⟩
                | 1, _ => exact ⟨_, L, (World.cell?_alloc_at _ _ _ _ rfl).trans rfl, HF2.out.alloc _, by omega⟩
                | 2, _ => exact ⟨_, M, (World.cell?_alloc_at _ _ _ _ rfl).trans rfl, HM0.out.alloc _, by omega⟩)
              have hB9 : Below w.heap.size w W9 := by rw [hW9]; exact bal HBW.out _
              have hS9 : SrcOk W9 sb := by rw [hW9]; exact srcOk_alloc hS0 _
              have hz9 : W0.heap.size < W9.heap.size := by rw [hW9]; simp
              have HW := Lib.hid hW9
              clear hW9 HL2 HF2 HM0 HBW HSL HLL
              have hsl : sb < W0.heap.size := srcOk_lt hS0
              clear hS0
              go_wp2
              go_loopw [191] (fun iv wr => ∃ k : Nat, k ≤ 3 ∧ iv = .int .i64 k ∧ SrcOk wr sb ∧ W9.grownBy wr (some sb)) (fun iv _ => 3 - (intOf iv).toNat)
              case atStart => exact ⟨0, by omega, rfl, HW.out ▸ hS9, HW.out ▸ grefl _ _⟩
              case round =>
                obtain ⟨k3, hk3, rfl, hSr, hgr⟩ := hrel
                have zr := hgr.size
                have HG := Lib.hid hgr
                clear hgr
                by_cases hlt3 : k3 < 3
                · obtain ⟨v, X, hcv, hX, hXl⟩ := HV.out k3 hlt3
                  obtain ⟨xa, xn, xc, rfl, -, -, -⟩ := hX.shape
                  have hcv2 := HG.out.cell hcv (by simp; omega)
                  have HX := Lib.hid (hX.grown HG.out (fun b h => h))
                  have hlt3z : (k3 : Int) < 3 := by omega
                  obtain ⟨XV, hXV⟩ : ∃ V, smV 0 X = V := ⟨_, rfl⟩
                  obtain ⟨XE, hXE⟩ : ∃ V, smE 0 X = V := ⟨_, rfl⟩
                  have D1 := Lib.hid (sum_any _ _ X wr HX.out (by omega))
                  have D2 := Lib.hid (r01sum_any _ _ X wr HX.out (by omega))
                  rw [hXV, hXE] at D1 D2
                  clear hXV hXE hX hcv
                  go_wp2_with fail
                  refine D1.out.mono ?_
                  rintro e w8 ⟨rfl, rfl⟩
                  go_wp2_with fail
                  refine D2.out.mono ?_
                  rintro e w8 ⟨rfl, rfl⟩
                  go_wp2_with fail
                  refine (tn_any sb _ _ hSr (by omega) (by omega)).mono ?_
                  rintro e w10 ⟨y1, hy1, rfl, hS10, hG10⟩
                  have HX10 := Lib.hid (HX.out.grown hG10 (fun b h => h))
                  have HG10 := Lib.hid (gtrans HG.out hG10)
                  have z10 := hG10.size
                  clear D1 D2 HX HG hSr hG10 hcv2 hy1
                  rename World => W10
                  have HT := Lib.hid (show ∀ k, k < 3 → ∃ z : Int, (W10.alloc (.cells #[.int .i64 a1, .int .i64 y1, .int .i64 1000000000000] 3)).cell? ⟨W10.heap.size, k, none⟩ = some (.int .i64 z) from fun k hk => by
                    match k, hk with
                    | 0, _ => exact ⟨_, (World.cell?_alloc_at _ _ _ _ rfl).trans rfl⟩
                    | 1, _ => exact ⟨_, (World.cell?_alloc_at _ _ _ _ rfl).trans rfl⟩
                    | 2, _ => exact ⟨_, (World.cell?_alloc_at _ _ _ _ rfl).trans rfl⟩)
                  have HW11 : ∃ W11, W11 = W10.alloc (.cells #[.int .i64 a1, .int .i64 y1, .int .i64 1000000000000] 3) := ⟨_, rfl⟩
                  obtain ⟨W11, hW11⟩ := HW11
                  rw [← hW11] at HT
                  have HX11 := Lib.hid (show Sl 1 encI (fun b => b ≠ sb) W11 (.slice xa xn xc) X from hW11 ▸ HX10.out.alloc _)
                  have hS11 : SrcOk W11 sb := hW11 ▸ srcOk_alloc hS10 _
                  have hG11 : W10.grownBy W11 (some sb) := by rw [hW11]; exact grown_below0 (bal brefl _)
                  have HG11 := Lib.hid (gtrans HG10.out hG11)
                  have hz11 : W10.heap.size < W11.heap.size := by rw [hW11]; simp
                  have HW2 := Lib.hid hW11
                  clear HX10 HG10 hG11 hW11
                  go_wp2
                  go_loopw [210] (fun iv wr => ∃ k : Nat, k ≤ 3 ∧ iv = .int .i64 k ∧ Below W11.heap.size W11 wr) (fun iv _ => 3 - (intOf iv).toNat)
                  case atStart => exact ⟨0, by omega, rfl, HW2.out ▸ brefl⟩
                  case round =>
                    obtain ⟨k5, hk5, rfl, hb5⟩ := hrel
                    have HB5 := Lib.hid hb5
                    have zr5 := hb5.size
                    clear hb5
                    by_cases hlt5 : k5 < 3
                    · obtain ⟨z, hz⟩ := HT.out k5 hlt5
                      have hzc := keepB HB5.out hz
                      have HX5 := Lib.hid (HX11.out.below HB5.out)
                      have hlt5z : (k5 : Int) < 3 := by omega
                      obtain ⟨PE, hPE⟩ : ∃ V, partsE z X = V := ⟨_, rfl⟩
                      obtain ⟨PL, hPL⟩ : ∃ V, partsL z X = V := ⟨_, rfl⟩
                      have hPl : PL.length ≤ 1000000 := by rw [← hPL]; unfold partsL; split; (· rw [parts_len]; omega); (· simp)
                      have D1 := Lib.hid (parts_any z _ _ X wr HX5.out (by omega))
                      rw [hPE, hPL] at D1
                      have D2 := Lib.hid (fun U (hU : Below wr.heap.size wr U) => by have h := r01parts_any z _ _ X U (HX5.out.below hU) (by omega); rw [hPE, hPL] at h; exact h)
                      clear hPE hPL hz
                      go_wp2_with fail
                      refine D1.out.mono ?_
                      rintro e w6 ⟨v1, rfl, hs1, hb1⟩
                      have HS1 := Lib.hid hs1
                      have HB1 := Lib.hid hb1
                      clear hs1 hb1
                      go_wp2_with fail
                      refine (D2.out _ HB1.out).mono ?_
                      rintro e w7 ⟨v2, rfl, hs2, hb2⟩
                      obtain ⟨p1, p2, p3, rfl, -, -, -⟩ := HS1.out.shape
                      obtain ⟨q1, q2, q3, rfl, -, -, -⟩ := hs2.shape
                      have hi7 := ints_any _ _ _ _ PL PL w7 (HS1.out.below hb2) hs2 hPl hPl
                      rw [decide_eq_true (show PL = PL from rfl)] at hi7
                      have HI := Lib.hid hi7
                      clear hi7
                      have HB2 := Lib.hid (bup HB1.out hb2)
                      clear hs2 hb2 HS1 HB1 D1 D2
                      go_wp2_with (go_at_call 50; refine HI.out.mono ?_; rintro e w8 ⟨rfl, q8, rfl⟩)
                      go_roundw
                      case rel => exact ⟨k5 + 1, by omega, by go_num, below_drewZ (bup HB5.out HB2.out) _⟩
                      case measure => simp [intOf]; omega
                    · have hk55 : k5 = 3 := by omega
                      subst hk55
                      go_wp2
                      go_roundw
                      case rel => exact ⟨k3 + 1, by omega, by go_num, srcOk_below hS11 HB5.out (by omega), gtrans HG11.out (grown_below0 HB5.out)⟩
                      case measure => simp [intOf]; omega
                · have hk33 : k3 = 3 := by omega
                  subst hk33
                  go_wp2_with (go_at_call 35; refine (awake_any _).mono ?_; rintro e w12 ⟨rfl, hb12⟩)
                  go_ret
                  exact ⟨rfl, bup (bgr hB9 HG.out hsb) hb12⟩
end Go.Proofs.Ytkkgipcidbgbhaa
