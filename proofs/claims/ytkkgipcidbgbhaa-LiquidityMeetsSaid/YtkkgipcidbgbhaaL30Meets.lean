/- LiquidityMeets: the walk. -/
import Derived.Test.YtkkgipcidbgbhaaLqG
import Derived.Test.YtkkgipcidbgbhaaSrcPos
namespace Go.Proofs.Ytkkgipcidbgbhaa
open Go.RowKit
set_option linter.unusedVariables false
set_option linter.unusedSimpArgs false
theorem least_of {p : Nat → Bool} : ∀ n : Nat, (∃ i, i < n ∧ p i = true) → ∃ k, k < n ∧ p k = true ∧ ∀ j, j < k → p j = false
  | 0, h => by obtain ⟨i, hi, _⟩ := h; omega
  | n + 1, h => by
    by_cases h2 : ∃ i, i < n ∧ p i = true
    · obtain ⟨k, h1, h2, h3⟩ := least_of n h2
      exact ⟨k, by omega, h2, h3⟩
    · obtain ⟨i, hi, hp⟩ := h
      have : i = n := by
        rcases Nat.lt_or_ge i n with h | h
        · exact absurd ⟨i, h, hp⟩ h2
        · omega
      subst this
      refine ⟨i, by omega, hp, fun j hj => ?_⟩
      cases hj2 : p j
      · rfl
      · exact absurd ⟨j, hj, hj2⟩ h2
theorem fstI_cases (p : Nat → Bool) (n : Nat) : (fstI p n = -1 ∧ ∀ j, j < n → p j = false) ∨ ∃ k : Nat, k < n ∧ fstI p n = k ∧ p k = true ∧ ∀ j, j < k → p j = false := by
  by_cases h : ∃ i, i < n ∧ p i = true
  · obtain ⟨k, h1, h2, h3⟩ := least_of n h
    exact .inr ⟨k, h1, fstI_some h1 h2 h3, h2, h3⟩
  · have h2 : ∀ j, j < n → p j = false := fun j hj => by
      cases hj2 : p j
      · rfl
      · exact absurd ⟨j, hj, hj2⟩ h
    exact .inl ⟨fstI_none h2, h2⟩
theorem lcE_src {lo hi lot mr mp dy : Int} {L : List (Int × Int)} (hb : BandLike lo hi lot mr mp) (hL : PosUp L dy) (hl : L.length ≤ 8) : lcE lo hi lot mr mp L.length (pd2 L) (pa2 L) = 0 := by
  obtain ⟨a1, a2, a3, a4, a5, a6, a7, a8, a9, a10⟩ := bandLike_bd hb
  have ha : ∀ j, j < L.length → inB (pa2 L j) (-1000000000000000) 1000000000000000 = true := fun j hj => inB_iff.2 (by have := hL.1 j hj; omega)
  unfold lcE
  rw [if_pos (bandB_iff.2 (by omega)), anyB_false (fun j hj => by simp [ha j hj]), if_neg (by simp), if_pos (posUp_asc hL (by omega)), if_neg (by omega)]
/-- the two ways of Make at the source's band and positions -/
theorem mk_cases {lo hi lot mr mp dy : Int} {L : List (Int × Int)} (hb : BandLike lo hi lot mr mp) (hL : PosUp L dy) (hl : L.length ≤ 8) :
    (mkE lo hi lot mr mp L.length (pd2 L) (pa2 L) = 0 ∧ mkD lo hi lot mr mp L.length (pd2 L) (pa2 L) = -1 ∧ mkP lo hi lot mr mp L.length (pd2 L) (pa2 L) = mkM lo hi lot mr mp L ∧ ∀ x ∈ L, decO lo hi lot mr mp x.2 = true) ∨
    (mkE lo hi lot mr mp L.length (pd2 L) (pa2 L) = 10 ∧ mkP lo hi lot mr mp L.length (pd2 L) (pa2 L) = [] ∧ ∃ k d a, L[k]? = some (d, a) ∧ mkD lo hi lot mr mp L.length (pd2 L) (pa2 L) = d ∧ decO lo hi lot mr mp a = false ∧ ∀ x ∈ L.take k, decO lo hi lot mr mp x.2 = true) := by
  have h0 := lcE_src hb hL hl
  rcases fstI_cases (fun j => !decO lo hi lot mr mp (pa2 L j)) L.length with ⟨h1, h2⟩ | ⟨k, hk, h1, h2, h3⟩
  · have hE : mkE lo hi lot mr mp L.length (pd2 L) (pa2 L) = 0 := by unfold mkE mkF; rw [h0, if_pos rfl, h1, if_neg (by omega)]
    refine .inl ⟨hE, by unfold mkD mkF; rw [h0, if_pos rfl, h1, if_neg (by omega)], mkP_M _ _ _ _ _ L hE, fun x hx => ?_⟩
    obtain ⟨j, hj, rfl⟩ := List.mem_iff_getElem.1 hx
    have := h2 j hj
    simp only [(pd2_get (List.getElem?_eq_getElem hj)).2] at this
    simpa using this
  · have hE : mkE lo hi lot mr mp L.length (pd2 L) (pa2 L) = 10 := by unfold mkE mkF; rw [h0, if_pos rfl, h1, if_pos (by omega)]
    obtain ⟨g1, g2⟩ := pd2_get (List.getElem?_eq_getElem hk)
    simp only [g2] at h2
    refine .inr ⟨hE, by unfold mkP; rw [hE, if_neg (by omega)], k, L[k].1, L[k].2, List.getElem?_eq_getElem hk, by unfold mkD mkF; rw [h0, if_pos rfl, h1, if_pos (by omega), Int.toNat_natCast, g1], by simpa using h2, fun x hx => ?_⟩
    obtain ⟨j, hj, rfl⟩ := List.mem_iff_getElem.1 hx
    rw [List.length_take] at hj
    rw [List.getElem_take]
    have := h3 j (by omega)
    simp only [(pd2_get (List.getElem?_eq_getElem (show j < L.length by omega))).2] at this
    simpa using this
theorem apE_M {lo hi lot mr mp : Int} {L : List (Int × Int)} (h : lcE lo hi lot mr mp L.length (pd2 L) (pa2 L) = 0) (ho : ∀ x ∈ L, decO lo hi lot mr mp x.2 = true) :
    apE L (mkM lo hi lot mr mp L) = 0 ∧ apL L (mkM lo hi lot mr mp L) = L.map (doneM lo hi lot mr mp) := by
  obtain ⟨hb, hin, ha, hl⟩ := lcE_zero h
  obtain ⟨ha1, ha2⟩ := (asc2 L).1 ha
  have hbl : badL L = false := by
    unfold badL
    rw [List.any_eq_false]
    intro x hx
    obtain ⟨j, hj, rfl⟩ := List.mem_iff_getElem.1 hx
    have := hin j hj
    rw [(pd2_get (List.getElem?_eq_getElem hj)).2] at this
    simp [totB, this]
  have hr := runA_M _ _ _ _ _ ha2 ho L [] rfl
  simp only [List.map_nil, List.nil_append] at hr
  have hE : apE L (mkM lo hi lot mr mp L) = 0 := by
    unfold apE
    rw [hbl, mkM_badQ, ha, mkM_plB _ _ _ _ _ ha, hr]; rfl
  refine ⟨hE, ?_⟩
  unfold apL
  rw [if_pos hE, hr]; rfl
set_option maxHeartbeats 8000000 in
set_option maxRecDepth 100000 in
theorem meets_walk (a0 : Option Addr) (len0 cap0 : Nat) (w : World) (h1 : len0 ≤ cap0) (h2 : cap0 ≤ maxLen) (hz : len0 = 0 ∨ ∃ b off, a0 = some ⟨b, off, none⟩ ∧ ∀ i, i < len0 → ∃ z : Int, w.cell? ⟨b, off + i, none⟩ = some (.int .i64 z)) :
    Calls Try.prog 3 #[.slice a0 len0 cap0] w fun e w' => e = .returned (.bool true) ∧ Below w.heap.size w w' := by
  go_enter Try.func3, Try.ntmps3
  go_wp2_with fail
  refine (new_any a0 len0 cap0 w h1 h2 hz).mono ?_
  rintro e w1 ⟨sb, rfl, hsb, hS1, hB1⟩
  clear hz
  go_wp2_with fail
  refine (band_any sb _ hS1).mono ?_
  rintro e w2 ⟨lo, hi, lot, mr, mp, hband, rfl, hS2, hG2⟩
  have HBD := Lib.hid hband
  have hB2 : Below w.heap.size w w2 := hB1.trans (below_of_grown hG2 hsb hB1.size)
  clear hband hB1 hG2
  go_wp2_with fail
  refine (positions_any sb 8 _ hS2 (by omega)).mono ?_
  rintro e w3 ⟨L, dy, ao, c, rfl, hl8, hU, hP, hao, hS3, hG3⟩
  have hB3 : Below w.heap.size w w3 := hB2.trans (below_of_grown hG3 hsb (by have := hB2.size; omega))
  have HSL := Lib.hid ((hP.sl (P := fun _ => True) (fun _ _ _ => trivial)).alloc (.cells #[.int .i64 lo, .int .i64 hi, .int .i64 lot, .int .i64 mr, .int .i64 mp] 26))
  have HB3 := Lib.hid (bal hB3 (.cells #[.int .i64 lo, .int .i64 hi, .int .i64 lot, .int .i64 mr, .int .i64 mp] 26))
  have z3 := hB3.size
  have HLC := Lib.hid (lcE_src HBD.out hU hl8)
  have hK := make_any lo hi lot mr mp ao L.length c (pd2 L) (pa2 L) _ (by omega) HSL.out.posAt
  rcases mk_cases HBD.out hU hl8 with ⟨e1, e2, e3, hok⟩ | ⟨e1, e2, k, kd, ka, hk, e3, hno, hall⟩
  · rw [e1, e2, e3] at hK
    have HK := Lib.hid hK
    obtain ⟨f1, f2⟩ := apE_M HLC.out hok
    have HF := Lib.hid (And.intro f1 f2)
    have HR := Lib.hid (rtB_M _ _ _ _ _ HLC.out (posUp_asc hU (by omega)) hok)
    have hin : ∀ x ∈ L.map (doneM lo hi lot mr mp), lo ≤ x.2 ∧ x.2 ≤ hi := fun x hx => by
      obtain ⟨y, hy, rfl⟩ := List.mem_map.1 hx
      obtain ⟨-, -, -, -, -, -, q1, q2⟩ := dec_in _ _ _ _ _ (hok y hy)
      exact ⟨q1, q2⟩
    have hlen : (L.map (doneM lo hi lot mr mp)).length = L.length := List.length_map ..
    have hMl : (mkM lo hi lot mr mp L).length ≤ 8 := by
      have := mkL_le lo hi lot mr mp (pd2 L) (pa2 L) L.length
      rw [mkL_M _ _ _ _ _ L _ (Nat.le_refl _), take_all (Nat.le_refl _)] at this
      omega
    obtain ⟨X, hX⟩ : ∃ X, L.map (doneM lo hi lot mr mp) = X := ⟨_, rfl⟩
    obtain ⟨M, hM⟩ : ∃ M, mkM lo hi lot mr mp L = M := ⟨_, rfl⟩
    rw [hX] at hin hlen HF
    rw [hM] at hMl HF HR HK
    have HIN := Lib.hid hin
    have HLEN := Lib.hid hlen
    clear hK e1 e2 e3 hok f1 f2 hin hlen hX hM hB3 hG3 hB2 hU hP hao hS2 hS3 HLC HBD
    go_wp2_with fail
    refine HK.out.mono ?_
    rintro e w4 ⟨v4, rfl, hown4, hb4⟩
    rw [← flatQ] at hown4
    have HT := Lib.hid (Sl.own (P := fun _ => True) encQ_len hown4 rfl (fun _ _ => trivial))
    obtain ⟨mo, mn, mc, rfl, hmn, -, -⟩ := HT.out.shape
    have HMN := Lib.hid hmn
    have HS4 := Lib.hid (HSL.out.below hb4)
    have HB4 := Lib.hid (bup HB3.out hb4)
    have x0 : w4.cell? ⟨w3.heap.size, 0, none⟩ = some (.int .i64 lo) := boxed_cell hb4 0 rfl
    have x1 : w4.cell? ⟨w3.heap.size, 1, none⟩ = some (.int .i64 hi) := boxed_cell hb4 1 rfl
    have x2 : w4.cell? ⟨w3.heap.size, 2, none⟩ = some (.int .i64 lot) := boxed_cell hb4 2 rfl
    have x3 : w4.cell? ⟨w3.heap.size, 3, none⟩ = some (.int .i64 mr) := boxed_cell hb4 3 rfl
    have x4 : w4.cell? ⟨w3.heap.size, 4, none⟩ = some (.int .i64 mp) := boxed_cell hb4 4 rfl
    have HA := Lib.hid (apply_any _ _ _ _ L M w4 HS4.out HT.out (by omega) (by omega))
    rw [HF.out.1, HF.out.2] at HA
    clear hown4 hb4 hmn
    go_wp2_with fail
    refine HA.out.mono ?_
    rintro e w5 ⟨v5, rfl, hS5, hb5⟩
    obtain ⟨xo, xn, xc, rfl, hxn, -, -⟩ := hS5.shape
    have hxL : xn = L.length := by rw [← hxn]; exact HLEN.out
    subst hxL
    have HS5 := Lib.hid hS5
    have y0 := keepB hb5 x0
    have y1 := keepB hb5 x1
    have y2 := keepB hb5 x2
    have y3 := keepB hb5 x3
    have y4 := keepB hb5 x4
    have HB5 := Lib.hid (bup HB4.out hb5)
    have HRT := Lib.hid (right_any lo hi lot mr mp _ _ _ _ L M w5 (HS4.out.below hb5) (HT.out.below hb5) (by omega) (by omega))
    rw [HR.out] at HRT
    clear x0 x1 x2 x3 x4 hS5 hb5 hxn HA HK HF HR HSL HS4 HB3 HB4
    go_wp2_with fail
    refine HRT.out.mono ?_
    rintro e w6 ⟨rfl, hb6⟩
    have HX0 := Lib.hid (keepB hb6 y0)
    have HX1 := Lib.hid (keepB hb6 y1)
    have HB6 := Lib.hid (bup HB5.out hb6)
    have HS6 := Lib.hid (HS5.out.below hb6)
    clear y0 y1 y2 y3 y4 hb6 HRT HT
    go_wp2
    go_loopw [94] (fun iv wr => ∃ k : Nat, k ≤ L.length ∧ iv = .int .i64 k ∧ Below w6.heap.size w6 wr) (fun iv _ => L.length - (intOf iv).toNat)
    case atStart => exact ⟨0, by omega, rfl, brefl⟩
    case round =>
      obtain ⟨k, hk, rfl, hbr⟩ := hrel
      have HBR := Lib.hid hbr
      by_cases hlt : k < L.length
      · obtain ⟨b, off, xd, xa, rfl, -, hbl, hx, k0, k1⟩ := (HS6.out.below hbr).pos hlt
        have hxa := HIN.out _ (List.mem_of_getElem? hx)
        simp only at hxa
        obtain ⟨xa0, xa1⟩ := hxa
        have y0 := keepB hbr HX0.out
        have y1 := keepB hbr HX1.out
        have hne : w3.heap.size < wr.heap.size := World.block_lt_of_cell? _ _ y0
        clear hx hbr
        go_wp2
        go_roundw
        case rel => exact ⟨k + 1, by omega, by go_num, bal HBR.out _⟩
        case measure => simp [intOf]; omega
      · clear hbr
        have HBR2 := Lib.hid (bup HB6.out HBR.out)
        go_wp2_with (go_at_call 14; refine (sane30_any _).mono ?_; rintro e w8 ⟨rfl, hb8⟩)
        go_ret
        exact ⟨rfl, bup HBR2.out (by assumption)⟩
  · rw [e1, e2, e3] at hK
    have HK := Lib.hid hK
    have HKK := Lib.hid hk
    have HNO := Lib.hid hno
    have HALL := Lib.hid hall
    have hkL : k < L.length := (List.getElem?_eq_some_iff.1 hk).1
    clear hK e1 e2 e3 hk hno hall hB3 hG3 hB2 hU hP hao hS2 hS3 HLC HBD
    go_wp2_with fail
    refine HK.out.mono ?_
    rintro e w4 ⟨v4, rfl, hown4, hb4⟩
    obtain ⟨mo, mc, rfl⟩ := own_slice0 hown4
    simp only [List.length_nil]
    have HS4 := Lib.hid (HSL.out.below hb4)
    have HB4 := Lib.hid (bup HB3.out hb4)
    have HX0 := Lib.hid (show w4.cell? ⟨w3.heap.size, 0, none⟩ = some (.int .i64 lo) from boxed_cell hb4 0 rfl)
    have HX1 := Lib.hid (show w4.cell? ⟨w3.heap.size, 1, none⟩ = some (.int .i64 hi) from boxed_cell hb4 1 rfl)
    have HX2 := Lib.hid (show w4.cell? ⟨w3.heap.size, 2, none⟩ = some (.int .i64 lot) from boxed_cell hb4 2 rfl)
    have HX3 := Lib.hid (show w4.cell? ⟨w3.heap.size, 3, none⟩ = some (.int .i64 mr) from boxed_cell hb4 3 rfl)
    have HX4 := Lib.hid (show w4.cell? ⟨w3.heap.size, 4, none⟩ = some (.int .i64 mp) from boxed_cell hb4 4 rfl)
    clear hown4 hb4 HK HSL HB3
    go_wp2
    go_loopw [35] (fun iv wr => ∃ j : Nat, j ≤ k ∧ iv = .int .i64 j ∧ Below w4.heap.size w4 wr) (fun iv _ => L.length - (intOf iv).toNat)
    case atStart => exact ⟨0, by omega, rfl, brefl⟩
    case round =>
      obtain ⟨j, hj, rfl, hbr⟩ := hrel
      have HBR := Lib.hid hbr
      have hjL : j < L.length := by omega
      obtain ⟨b, off, xd, xa, rfl, -, hbl, hx, k0, k1⟩ := (HS4.out.below hbr).pos hjL
      have y0 := keepB hbr HX0.out
      have y1 := keepB hbr HX1.out
      have y2 := keepB hbr HX2.out
      have y3 := keepB hbr HX3.out
      have y4 := keepB hbr HX4.out
      have hne : w3.heap.size < wr.heap.size := World.block_lt_of_cell? _ _ y0
      have HX := Lib.hid hx
      clear hx hbr
      rcases Nat.lt_or_ge j k with hjk | hjk
      · have ho : decO lo hi lot mr mp xa = true := by
          have : (xd, xa) ∈ L.take k := by
            refine List.mem_of_getElem? (i := j) ?_
            rw [List.getElem?_take_of_lt hjk]; exact HX.out
          exact HALL.out _ this
        have hD := r30decide_any lo hi lot mr mp xa (wr.alloc (.cells #[.int .i64 xd, .int .i64 xa] 35))
        rw [ho] at hD
        have HD := Lib.hid hD
        clear ho hD
        go_wp2_with fail
        refine HD.out.mono ?_
        rintro e w5 ⟨rfl, hb5⟩
        have HB5 := Lib.hid (bup (bal HBR.out _) hb5)
        clear hb5
        go_wp2
        go_roundw
        case rel => exact ⟨j + 1, by omega, by go_num, HB5.out⟩
        case measure => simp [intOf]; omega
      · have hjk2 : j = k := by omega
        subst hjk2
        have he := HKK.out.symm.trans HX.out
        simp only [Option.some.injEq, Prod.mk.injEq] at he
        obtain ⟨rfl, rfl⟩ := he
        have hD := r30decide_any lo hi lot mr mp ka (wr.alloc (.cells #[.int .i64 kd, .int .i64 ka] 35))
        rw [HNO.out] at hD
        have HD := Lib.hid hD
        clear hD
        go_wp2_with fail
        refine HD.out.mono ?_
        rintro e w5 ⟨rfl, hb5⟩
        have HB5 := Lib.hid (bup (bal (bup HB4.out HBR.out) _) hb5)
        have q0 : w5.cell? ⟨wr.heap.size, 0, none⟩ = some (.int .i64 kd) := boxed_cell hb5 0 rfl
        clear hb5
        go_wp2_with (go_at_call 14; refine (sane30_any _).mono ?_; rintro e w8 ⟨rfl, hb8⟩)
        go_ret
        exact ⟨rfl, bup HB5.out (by assumption)⟩
end Go.Proofs.Ytkkgipcidbgbhaa
