/- AuctionShares: the walk. -/
import Derived.Test.YtenbbmmbpjjjpaaZL32O
import Derived.Test.YtenbbmmbpjjjpaaZL32Q
namespace Go.Proofs.Ytenbbmmbpjjjpaa
open Go.RowKit
set_option linter.unusedVariables false
set_option linter.unusedSimpArgs false

set_option maxHeartbeats 16000000 in
set_option maxRecDepth 100000 in
theorem shares_walk (a0 : Option Addr) (len0 cap0 : Nat) (w : World) (h1 : len0 ≤ cap0) (h2 : cap0 ≤ maxLen) (hz : len0 = 0 ∨ ∃ b off, a0 = some ⟨b, off, none⟩ ∧ ∀ i, i < len0 → ∃ z : Int, w.cell? ⟨b, off + i, none⟩ = some (.int .i64 z)) :
    Calls Try.prog 5 #[.slice a0 len0 cap0] w fun e w' => e = .returned (.bool true) ∧ Below w.heap.size w w' := by
  go_enter Try.func5, Try.ntmps5
  go_wp2_with fail
  refine (new_any a0 len0 cap0 w h1 h2 hz).mono ?_
  rintro e w1 ⟨sb, rfl, hsb, hS1, hB1⟩
  clear hz
  have HS1 := Lib.hid hS1
  have HB1 := Lib.hid hB1
  clear hS1 hB1
  go_wp2_with fail
  refine (soffer_any sb _ HS1.out).mono ?_
  rintro e w2 ⟨am, le, sh, un, rfl, ho, hS2, hG2⟩
  have HS2 := Lib.hid hS2
  have HG2 := Lib.hid hG2
  clear hS2 hG2
  go_wp2_with fail
  refine (sbids_any sb 9 _ HS2.out (by decide) (by decide)).mono ?_
  rintro e w3 ⟨bv, L, rfl, hw3, hL, hS3, hG3⟩
  have HI := Lib.hid (hL.into (by decide) ho)
  have hb3 := Sl.own (P := fun _ => True) encBid_len hw3 rfl (fun _ _ => trivial)
  obtain ⟨ba, n, bc, rfl, hn, -, -⟩ := hb3.shape
  have hn9 : n ≤ 9 := by have := hL.n; omega
  have HB3 := Lib.hid (HB1.out.trans (below_of_grown (grownBy_trans HG2.out hG3) hsb HB1.out.size))
  have HL3 := Lib.hid hb3
  have HFR := Lib.hid (fun b (hb : b ∈ L) => fair_ok HI.out hb un)
  have HSH := Lib.hid (fun b (hb : b ∈ L) (hf : b.f = true) hlt => share_ok HI.out hb un hf hlt)
  have HGV := Lib.hid (HI.out.givF un)
  have HAK := Lib.hid HI.out.asked
  have HAB := Lib.hid HI.out.askBd
  have HFN := Lib.hid HI.out.fr
  have HOK := Lib.hid HI.out.ok
  have HA1 := Lib.hid (fun k => acT_bd (f := askB) (L := L) (M := 1000000) (by decide) (fun x hx => by have h1 := HI.out.ok x hx; have := h1.a0; have := h1.a1; unfold askB; split <;> omega) k)
  have HG1 := Lib.hid (fun k => acT_bd (f := givB (hdA am le sh un L)) (L := L) (M := 1000000) (by decide) (fun x hx => by have h1 := HI.out.ok x hx; have h2 := HFR.out x hx; have := h1.a1; have := h2.n0; have := h2.asks; unfold givB; split <;> omega) k)
  have KH := Lib.hid (fun (U : World) (hU : Below w3.heap.size w3 U) => hold_any (fun _ => True) am le sh un _ L U (HL3.out.below hU) HI.out.ok HI.out.k HI.out.n HI.out.o HI.out.p)
  have hAl : (hdA am le sh un L).length ≤ 1000 := by have := awT_len le un (srB L) (hdG am le sh (srB L)) (srB L).length; have := HI.out.S60; unfold hdA; omega
  clear hw3 hS3 hG3 hb3 hL
  obtain ⟨C, hC⟩ : ∃ x, hdC am le sh L = x := ⟨_, rfl⟩
  obtain ⟨T, hT⟩ : ∃ x, hdS am le sh L = x := ⟨_, rfl⟩
  obtain ⟨A, hA⟩ : ∃ x, hdA am le sh un L = x := ⟨_, rfl⟩
  obtain ⟨Z, hZ⟩ : ∃ x, sumI (rkF (srB L)) = x := ⟨_, rfl⟩
  obtain ⟨M, hM⟩ : ∃ x, am / 1000 * sh / 100 = x := ⟨_, rfl⟩
  obtain ⟨am1, ham1⟩ : ∃ x, am / 1000 = x := ⟨_, rfl⟩
  rw [hC, hT, hA] at KH
  rw [hC, hA] at HFR
  rw [hA, hZ, hM] at HGV HSH
  rw [hZ] at HAK HAB
  rw [hA] at HG1
  rw [hA] at hAl
  rw [hM, ham1] at HFN
  rw [ham1] at hM
  have HAZ := Lib.hid (show 0 ≤ Z ∧ Z ≤ 9000000 from ⟨HAB.out, by have h1 := HA1.out L.length; rw [HAK.out] at h1; have h2 := hn9; have h3 := hn; have := h1.2; omega⟩)
  have hdv1 : am.tdiv 1000 = am1 := by rw [Int.tdiv_eq_ediv_of_nonneg (by have := ho.a0; omega)]; exact ham1
  have hm0 : 0 ≤ am1 * sh ∧ am1 * sh ≤ 100000000 := by
    have h1 : 0 ≤ am1 := by have := ho.a0; omega
    have h2 : am1 ≤ 1000000 := by have := ho.a1; omega
    exact ⟨Int.mul_nonneg h1 ho.s0, by have := Int.mul_le_mul h2 ho.s1 ho.s0 (by decide); omega⟩
  have hdv2 : (am1 * sh).tdiv 100 = M := by rw [Int.tdiv_eq_ediv_of_nonneg hm0.1]; exact hM
  have hw0 : wrap64 (am1 * sh) = am1 * sh := IntWalk.wrap64_in _ (by omega)
  have hi0 : IntKind.i64.wrap (am1 * sh) = am1 * sh := IntWalk.i64_in _ (by omega)
  have hM0 : 0 ≤ M ∧ M ≤ 1000000 := by obtain ⟨f1, f2, f3, f4, f5⟩ := HFN.out; omega
  have hwM : wrap64 M = M := IntWalk.wrap64_in _ (by omega)
  have hiM : IntKind.i64.wrap M = M := IntWalk.i64_in _ (by omega)
  have ha1 : 0 ≤ am1 ∧ am1 ≤ 1000000 := by have := ho.a0; have := ho.a1; omega
  have hwa : wrap64 am1 = am1 := IntWalk.wrap64_in _ (by omega)
  have hia : IntKind.i64.wrap am1 = am1 := IntWalk.i64_in _ (by omega)
  clear hC hT hA HI hZ hM ham1 hm0 HFN
  have HO := Lib.hid ho
  have HN := Lib.hid hn
  have HAL := Lib.hid hAl
  clear ho hn hAl
  go_wp2_with fail
  refine (KH.out _ (bal brefl _)).mono ?_
  rintro e w4 ⟨av, rfl, hw4, hb4⟩
  have o0 : w4.cell? ⟨w3.heap.size, 0, none⟩ = some (.int .i64 am) := boxed_cell hb4 0 rfl
  have o2 : w4.cell? ⟨w3.heap.size, 2, none⟩ = some (.int .i64 sh) := boxed_cell hb4 2 rfl
  have hA4 : Sl 4 encAwd (fun _ => True) w4 av A := Sl.own encAwd_len hw4 rfl (fun _ _ => trivial)
  obtain ⟨aa, m, ac, rfl, hm, -, -⟩ := hA4.shape
  have hB4 := bup (bal brefl _) hb4
  have HL4 := Lib.hid (HL3.out.below hB4)
  have HB4 := Lib.hid (bup HB3.out hB4)
  have HA4 := Lib.hid hA4
  have HM := Lib.hid hm
  have hm1 : m ≤ 1000 := by have := HAL.out; omega
  clear hw4 hb4 hA4 hB4 KH HL3
  go_upto_region 4 with fail
  obtain ⟨W, hW⟩ : ∃ W, W = w4.alloc (.cells #[.int .i64 C, .int .i64 T, .slice aa m ac] 32 (0, 0)) := ⟨_, rfl⟩
  rw [← hW]
  have hbW : Below w4.heap.size w4 W := by rw [hW]; exact bal brefl _
  have r0 : W.cell? ⟨w4.heap.size, 0, none⟩ = some (.int .i64 C) := by rw [hW]; exact World.cell?_alloc_at _ _ _ _ rfl
  have r1 : W.cell? ⟨w4.heap.size, 1, none⟩ = some (.int .i64 T) := by rw [hW]; exact World.cell?_alloc_at _ _ _ _ rfl
  have r2 : W.cell? ⟨w4.heap.size, 2, none⟩ = some (.slice aa m ac) := by rw [hW]; exact World.cell?_alloc_at _ _ _ _ rfl
  replace o0 := keepB hbW o0
  replace o2 := keepB hbW o2
  have HLW := Lib.hid (HL4.out.below hbW)
  have HAW := Lib.hid (HA4.out.below hbW)
  have HBW := Lib.hid (bup HB4.out hbW)
  clear hW hbW HL4 HA4 hm
  have KG := Lib.hid (fun (U : World) (hU : Below W.heap.size W U) (b n : Int) => given_any (fun _ => True) C T _ A b n U (HAW.out.below hU) HAL.out)
  go_upto_region 7 with fail
  clear hdv1 hdv2 hw0 hi0 hwM hiM hwa hia
  go_wp2
  go_loopw [39, 9, 10] (fun iv sv gv wr => ∃ k : Nat, k ≤ n ∧ iv = .int .i64 k ∧ sv = .int .i64 (acT askB L k) ∧ gv = .int .i64 (acT (givB A) L k) ∧ Below W.heap.size W wr) (fun iv sv gv _ => n - (intOf iv).toNat)
  case atStart => exact ⟨0, by omega, rfl, rfl, rfl, brefl⟩
  case round =>
    obtain ⟨k, hk, rfl, rfl, rfl, hbr⟩ := hrel
    have zr := hbr.size
    have q0 := keepB hbr r0
    have q1 := keepB hbr r1
    have q2 := keepB hbr r2
    have zq : w4.heap.size < wr.heap.size := World.block_lt_of_cell? _ _ q0
    by_cases hlt : k < n
    · obtain ⟨bb, off, x0, x1, x2, x3, x4, rfl, -, hbb, hx, k0, k1, k2, k3, k4⟩ := (HLW.out.below hbr).bid hlt
      have hkz : (k : Int) < (n : Int) := by omega
      have e1 := acT_succ (f := askB) hx
      have e2 := acT_succ (f := givB A) hx
      have hF := HFR.out _ (List.mem_of_getElem? hx)
      have hOK := HOK.out _ (List.mem_of_getElem? hx)
      obtain ⟨sb0, sb1⟩ := HA1.out k
      obtain ⟨gb0, gb1⟩ := HG1.out k
      obtain ⟨SS, hSS⟩ : ∃ s, acT askB L k = s := ⟨_, rfl⟩
      obtain ⟨GG, hGG⟩ : ∃ s, acT (givB A) L k = s := ⟨_, rfl⟩
      obtain ⟨V, hV⟩ : ∃ V, gvA A x0 x1 = V := ⟨_, rfl⟩
      have g1 : askB ⟨x0, x1, x2, x3, x4⟩ = if x4 = true then x3 / 1000 else 0 := rfl
      have g2 : givB A ⟨x0, x1, x2, x3, x4⟩ = if x4 = true then V / 1000 else 0 := by rw [← hV]; rfl
      simp only at hF
      rw [hV] at hF
      rw [hSS] at e1 sb0 sb1 ⊢
      rw [hGG] at e2 gb0 gb1 ⊢
      rw [g1] at e1
      rw [g2] at e2
      have hva := hF.asks
      have hv0 := hF.n0
      have hxa := hOK.a0
      have hxb := hOK.a1
      simp only at hva hxa hxb
      have KV := Lib.hid (fun U hU => KG.out U hU x0 x1)
      rw [hV] at KV
      have E1 := Lib.hid e1
      have E2 := Lib.hid e2
      have HBR := Lib.hid hbr
      have sS : 0 ≤ SS ∧ SS ≤ 9000000 := ⟨sb0, by omega⟩
      have sG : 0 ≤ GG ∧ GG ≤ 9000000 := ⟨gb0, by omega⟩
      obtain ⟨X, hX⟩ : ∃ X, x3 / 1000 = X := ⟨_, rfl⟩
      obtain ⟨Y, hY⟩ : ∃ Y, V / 1000 = Y := ⟨_, rfl⟩
      rw [hX] at E1
      rw [hY] at E2
      have hX0 : 0 ≤ X ∧ X ≤ 1000000 := by omega
      have hY0 : 0 ≤ Y ∧ Y ≤ 1000000 := by omega
      have hdx : x3.tdiv 1000 = X := by rw [Int.tdiv_eq_ediv_of_nonneg (by omega)]; exact hX
      have hdy : V.tdiv 1000 = Y := by rw [Int.tdiv_eq_ediv_of_nonneg (by omega)]; exact hY
      have hw1 : wrap64 (SS + X) = SS + X := IntWalk.wrap64_in _ (by omega)
      have hi1 : IntKind.i64.wrap (SS + X) = SS + X := IntWalk.i64_in _ (by omega)
      have hw2 : wrap64 (GG + Y) = GG + Y := IntWalk.wrap64_in _ (by omega)
      have hi2 : IntKind.i64.wrap (GG + Y) = GG + Y := IntWalk.i64_in _ (by omega)
      have hw3 : wrap64 X = X := IntWalk.wrap64_in _ (by omega)
      have hi3 : IntKind.i64.wrap X = X := IntWalk.i64_in _ (by omega)
      have hw4 : wrap64 Y = Y := IntWalk.wrap64_in _ (by omega)
      have hi4 : IntKind.i64.wrap Y = Y := IntWalk.i64_in _ (by omega)
      clear hSS hGG hV e1 e2 hx hbr sb0 sb1 gb0 gb1 g1 g2 hF hOK hX hY
      cases x4 with
      | false =>
        have hs0 := Lib.hid (show acT askB L (k + 1) = SS by rw [E1.out, if_neg (by decide)]; omega)
        have hg0 := Lib.hid (show acT (givB A) L (k + 1) = GG by rw [E2.out, if_neg (by decide)]; omega)
        go_wp2
        go_roundw
        case rel => exact ⟨k + 1, by omega, by go_num, by rw [hs0.out], by rw [hg0.out], bal HBR.out _⟩
        case measure => simp [intOf]; omega
      | true =>
        have hs0 := Lib.hid (show acT askB L (k + 1) = SS + X by rw [E1.out, if_pos rfl])
        have hg0 := Lib.hid (show acT (givB A) L (k + 1) = GG + Y by rw [E2.out, if_pos rfl])
        go_wp2_with fail
        refine (KV.out _ (bal HBR.out _)).mono ?_
        rintro e w5 ⟨rfl, hb5⟩
        have HB5 := Lib.hid (bup (bal HBR.out _) hb5)
        clear k0 k1 k2 k3 k4 hb5 q0 q1 q2 zq
        go_wp2
        go_roundw
        case rel => exact ⟨k + 1, by omega, by go_num, by rw [hs0.out], by rw [hg0.out], HB5.out⟩
        case measure => simp [intOf]; omega
    · have hkn : k = L.length := by have := HN.out; omega
      have hs : acT askB L k = Z := by rw [hkn]; exact HAK.out
      have hg : acT (givB A) L k = min M Z := by rw [hkn]; exact HGV.out
      rw [hs, hg]
      have hmin : min M Z = if Z < M then Z else M := by split <;> omega
      rw [hmin]
      obtain ⟨hz0, hz1⟩ := HAZ.out
      obtain ⟨wo, hwo⟩ : ∃ u, u = wr := ⟨wr, rfl⟩
      subst hwo
      have HBR := Lib.hid hbr
      have HBO := Lib.hid (bup HBW.out hbr)
      have HLO := Lib.hid (HLW.out.below hbr)
      replace KG := Lib.hid (fun (U : World) (hU : Below wo.heap.size wo U) (b n : Int) => KG.out U (HBR.out.trans (Below.mono hU zr)) b n)
      have hkn2 : k = n := by have := HN.out; omega
      subst hkn2
      clear hbr hkn hs hg hlt hk o0 o2 r0 r1 r2 HLW HAW hmin zr
      go_wp2
      all_goals
        go_loopw [67] (fun iv wr => ∃ i : Nat, i ≤ k ∧ iv = .int .i64 i ∧ Below wo.heap.size wo wr) (fun iv _ => k - (intOf iv).toNat)
        case atStart => exact ⟨0, by omega, rfl, brefl⟩
        case round =>
          obtain ⟨i, hi, rfl, hbr⟩ := hrel
          have zr := hbr.size
          have s0 := keepB hbr q0
          have s1 := keepB hbr q1
          have s2 := keepB hbr q2
          have zs : w4.heap.size < wr.heap.size := World.block_lt_of_cell? _ _ s0
          by_cases hit : i < k
          · obtain ⟨bb, off, x0, x1, x2, x3, x4, rfl, -, hbb, hx, k0, k1, k2, k3, k4⟩ := (HLO.out.below hbr).bid hit
            have hiz : (i : Int) < (k : Int) := by omega
            have hF := HFR.out _ (List.mem_of_getElem? hx)
            have hOK := HOK.out _ (List.mem_of_getElem? hx)
            have hSH := HSH.out _ (List.mem_of_getElem? hx)
            obtain ⟨V, hV⟩ : ∃ V, gvA A x0 x1 = V := ⟨_, rfl⟩
            simp only at hF hSH
            rw [hV] at hF hSH
            have hva := hF.asks
            have hv0 := hF.n0
            have hxa := hOK.a0
            have hxb := hOK.a1
            simp only at hva hxa hxb
            obtain ⟨X, hX⟩ : ∃ X, x3 / 1000 = X := ⟨_, rfl⟩
            obtain ⟨Y, hY⟩ : ∃ Y, V / 1000 = Y := ⟨_, rfl⟩
            rw [hX, hY] at hSH
            have hX0 : 0 ≤ X ∧ X ≤ 1000000 := by omega
            have hY0 : 0 ≤ Y ∧ Y ≤ 1000000 := by omega
            have hdx : x3.tdiv 1000 = X := by rw [Int.tdiv_eq_ediv_of_nonneg (by omega)]; exact hX
            have hdy : V.tdiv 1000 = Y := by rw [Int.tdiv_eq_ediv_of_nonneg (by omega)]; exact hY
            obtain ⟨p0, p1⟩ := mul_bd hX0.1 hX0.2 hM0.1 hM0.2
            obtain ⟨y0, y1⟩ := mul_bd hY0.1 hY0.2 hz0 hz1
            have hw3 : wrap64 X = X := IntWalk.wrap64_in _ (by omega)
            have hi3 : IntKind.i64.wrap X = X := IntWalk.i64_in _ (by omega)
            have hw4 : wrap64 Y = Y := IntWalk.wrap64_in _ (by omega)
            have hi4 : IntKind.i64.wrap Y = Y := IntWalk.i64_in _ (by omega)
            obtain ⟨P1, hP1⟩ : ∃ P, X * M = P := ⟨_, rfl⟩
            obtain ⟨P2, hP2⟩ : ∃ P, Y * Z = P := ⟨_, rfl⟩
            rw [hP1, hP2] at hSH
            rw [hP1] at p0 p1
            rw [hP2] at y0 y1
            have hw5 : wrap64 P1 = P1 := IntWalk.wrap64_in _ (by omega)
            have hi5 : IntKind.i64.wrap P1 = P1 := IntWalk.i64_in _ (by omega)
            have hw6 : wrap64 P2 = P2 := IntWalk.wrap64_in _ (by omega)
            have hi6 : IntKind.i64.wrap P2 = P2 := IntWalk.i64_in _ (by omega)
            have hw7 : wrap64 (P1 - Z) = P1 - Z := IntWalk.wrap64_in _ (by omega)
            have hi7 : IntKind.i64.wrap (P1 - Z) = P1 - Z := IntWalk.i64_in _ (by omega)
            have hw8 : wrap64 (P1 + Z) = P1 + Z := IntWalk.wrap64_in _ (by omega)
            have hi8 : IntKind.i64.wrap (P1 + Z) = P1 + Z := IntWalk.i64_in _ (by omega)
            have KV := Lib.hid (fun U hU => KG.out U hU x0 x1)
            rw [hV] at KV
            have HBR := Lib.hid hbr
            clear hV hx hbr hF hOK hX hY
            go_wp2_with fail
            refine (KV.out _ (bal HBR.out _)).mono ?_
            rintro e w5 ⟨rfl, hb5⟩
            have HB5 := Lib.hid (bup (bal HBR.out _) hb5)
            have c3 : w5.cell? ⟨wr.heap.size, 3, none⟩ = some (.int .i64 x3) := boxed_cell hb5 3 rfl
            have c4 : w5.cell? ⟨wr.heap.size, 4, none⟩ = some (.bool x4) := boxed_cell hb5 4 rfl
            have z5 : wr.heap.size < w5.heap.size := World.block_lt_of_cell? _ _ c3
            clear k0 k1 k2 k3 k4 hb5 s0 s1 s2 zs
            cases x4 with
            | false =>
              clear hSH
              go_wp2
              go_roundw
              case rel => exact ⟨i + 1, by omega, by go_num, HB5.out⟩
              case measure => simp [intOf]; omega
            | true =>
              by_cases hMZ : M < Z
              · first
                | (exfalso; omega)
                | (obtain ⟨g1, g2⟩ := hSH rfl hMZ
                   have g3 : ¬ P2 ≤ P1 - Z := (by omega)
                   have g4 : ¬ P1 + Z ≤ P2 := (by omega)
                   clear hSH g1 g2 p0 p1 y0 y1
                   go_wp2
                   go_roundw
                   case rel => exact ⟨i + 1, by omega, by go_num, HB5.out⟩
                   case measure => (simp [intOf]; omega))
              · clear hSH
                go_wp2
                go_roundw
                case rel => exact ⟨i + 1, by omega, by go_num, HB5.out⟩
                case measure => simp [intOf]; omega
          · have HBJ := Lib.hid hbr
            clear hbr
            go_wp2_with fail
            refine (sane32_any _).mono ?_
            rintro e w9 ⟨rfl, hb9⟩
            go_wp2
            go_ret
            exact ⟨rfl, bup (HBO.out.trans (Below.mono HBJ.out HBO.out.size)) hb9⟩
end Go.Proofs.Ytenbbmmbpjjjpaa
