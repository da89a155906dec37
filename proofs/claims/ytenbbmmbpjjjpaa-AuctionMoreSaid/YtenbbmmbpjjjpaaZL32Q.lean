/- AuctionPrices: the walk. -/
import Derived.Test.YtenbbmmbpjjjpaaZL32G
namespace Go.Proofs.Ytenbbmmbpjjjpaa
open Go.RowKit
set_option linter.unusedVariables false
set_option linter.unusedSimpArgs false
/-- bids that the source gives are bids that can be held -/
theorem BidsOk.into {most am le sh : Int} {L : List Bid} (h : BidsOk most L) (h1 : most ≤ 12) (ho : OffOk am le sh) : HdIn am le sh L :=
  ⟨h.ok, h.keys, by have := h.n; omega, ho, Nat.le_trans (prcT_len _ _ _) (by rw [srB_len]; have := h.n; omega)⟩
set_option maxHeartbeats 16000000 in
set_option maxRecDepth 100000 in
theorem prices_walk (a0 : Option Addr) (len0 cap0 : Nat) (w : World) (h1 : len0 ≤ cap0) (h2 : cap0 ≤ maxLen) (hz : len0 = 0 ∨ ∃ b off, a0 = some ⟨b, off, none⟩ ∧ ∀ i, i < len0 → ∃ z : Int, w.cell? ⟨b, off + i, none⟩ = some (.int .i64 z)) :
    Calls Try.prog 4 #[.slice a0 len0 cap0] w fun e w' => e = .returned (.bool true) ∧ Below w.heap.size w w' := by
  go_enter Try.func4, Try.ntmps4
  go_wp2_with fail
  refine (new_any a0 len0 cap0 w h1 h2 hz).mono ?_
  rintro e w1 ⟨sb, rfl, hsb, hS1, hB1⟩
  clear hz
  have HS1 := Lib.hid hS1
  have HB1 := Lib.hid hB1
  clear hS1 hB1
  go_wp2_with fail
  refine (soffer_any sb _ HS1.out).mono ?_
  rintro e w2 ⟨am, le, sh, un, rfl, ho, hS2, hG2⟩
  have HS2 := Lib.hid hS2
  have HG2 := Lib.hid hG2
  clear hS2 hG2
  go_wp2_with fail
  refine (sbids_any sb 9 _ HS2.out (by decide) (by decide)).mono ?_
  rintro e w3 ⟨bv, L, rfl, hw3, hL, hS3, hG3⟩
  have HI := Lib.hid (hL.into (by decide) ho)
  have hb3 := Sl.own (P := fun _ => True) encBid_len hw3 rfl (fun _ _ => trivial)
  obtain ⟨ba, n, bc, rfl, hn, -, -⟩ := hb3.shape
  have hn9 : n ≤ 9 := by have := hL.n; omega
  have HB3 := Lib.hid (HB1.out.trans (below_of_grown (grownBy_trans HG2.out hG3) hsb HB1.out.size))
  have HL3 := Lib.hid hb3
  clear hw3 hS3 hG3 hb3 hL
  have KH := Lib.hid (fun (U : World) (hU : Below w3.heap.size w3 U) => hold_any (fun _ => True) am le sh un _ L U (HL3.out.below hU) HI.out.ok HI.out.k HI.out.n HI.out.o HI.out.p)
  have HPR := Lib.hid (fun (M : Int) hM a ha b hb => prices_ok HI.out (un := un) (M := M) hM (a := a) ha (b := b) hb)
  have HPB := Lib.hid (fun x (hx : x ∈ L) => (HI.out.ok x hx).p)
  have hAl : (hdA am le sh un L).length ≤ 1000 := by have := awT_len le un (srB L) (hdG am le sh (srB L)) (srB L).length; have := HI.out.S60; unfold hdA; omega
  obtain ⟨C, hC⟩ : ∃ x, hdC am le sh L = x := ⟨_, rfl⟩
  obtain ⟨T, hT⟩ : ∃ x, hdS am le sh L = x := ⟨_, rfl⟩
  obtain ⟨A, hA⟩ : ∃ x, hdA am le sh un L = x := ⟨_, rfl⟩
  rw [hC, hT, hA] at KH
  rw [hC, hA] at HPR
  rw [hA] at hAl
  clear hC hT hA HI
  have HO := Lib.hid ho
  have HN := Lib.hid hn
  have HAL := Lib.hid hAl
  clear ho hn hAl
  go_wp2_with fail
  refine (KH.out _ (bal brefl _)).mono ?_
  rintro e w4 ⟨av, rfl, hw4, hb4⟩
  have o0 : w4.cell? ⟨w3.heap.size, 0, none⟩ = some (.int .i64 am) := boxed_cell hb4 0 rfl
  have o1 : w4.cell? ⟨w3.heap.size, 1, none⟩ = some (.int .i64 le) := boxed_cell hb4 1 rfl
  have o2 : w4.cell? ⟨w3.heap.size, 2, none⟩ = some (.int .i64 sh) := boxed_cell hb4 2 rfl
  have o3 : w4.cell? ⟨w3.heap.size, 3, none⟩ = some (.bool un) := boxed_cell hb4 3 rfl
  have hA4 : Sl 4 encAwd (fun _ => True) w4 av A := Sl.own encAwd_len hw4 rfl (fun _ _ => trivial)
  obtain ⟨aa, m, ac, rfl, hm, -, -⟩ := hA4.shape
  have hB4 := bup (bal brefl _) hb4
  have HL4 := Lib.hid (HL3.out.below hB4)
  have HB4 := Lib.hid (bup HB3.out hB4)
  have HA4 := Lib.hid hA4
  have HM := Lib.hid hm
  have hm1 : m ≤ 1000 := by have := HAL.out; omega
  clear hw4 hb4 hA4 hB4 KH HL3
  go_upto_region 4 with fail
  obtain ⟨W, hW⟩ : ∃ W, W = w4.alloc (.cells #[.int .i64 C, .int .i64 T, .slice aa m ac] 32 (0, 0)) := ⟨_, rfl⟩
  rw [← hW]
  have hbW : Below w4.heap.size w4 W := by rw [hW]; exact bal brefl _
  have r0 : W.cell? ⟨w4.heap.size, 0, none⟩ = some (.int .i64 C) := by rw [hW]; exact World.cell?_alloc_at _ _ _ _ rfl
  have r1 : W.cell? ⟨w4.heap.size, 1, none⟩ = some (.int .i64 T) := by rw [hW]; exact World.cell?_alloc_at _ _ _ _ rfl
  have r2 : W.cell? ⟨w4.heap.size, 2, none⟩ = some (.slice aa m ac) := by rw [hW]; exact World.cell?_alloc_at _ _ _ _ rfl
  replace o0 := keepB hbW o0
  replace o1 := keepB hbW o1
  replace o2 := keepB hbW o2
  replace o3 := keepB hbW o3
  have HLW := Lib.hid (HL4.out.below hbW)
  have HAW := Lib.hid (HA4.out.below hbW)
  have HBW := Lib.hid (bup HB4.out hbW)
  clear hW hbW HL4 HA4
  have KG := Lib.hid (fun (U : World) (hU : Below W.heap.size W U) (b n : Int) => given_any (fun _ => True) C T _ A b n U (HAW.out.below hU) HAL.out)
  have HMB := Lib.hid (fun k => mostT_bd (A := A) HPB.out k)
  go_wp2
  go_loopw [31, 8] (fun iv mv wr => ∃ k : Nat, k ≤ n ∧ iv = .int .i64 k ∧ mv = .int .i64 (mostT A L k) ∧ Below W.heap.size W wr) (fun iv mv _ => n - (intOf iv).toNat)
  case atStart => exact ⟨0, by omega, rfl, rfl, brefl⟩
  case round =>
    obtain ⟨k, hk, rfl, rfl, hbr⟩ := hrel
    have zr := hbr.size
    by_cases hlt : k < n
    · obtain ⟨bb, off, x0, x1, x2, x3, x4, rfl, -, hbb, hx, k0, k1, k2, k3, k4⟩ := (HLW.out.below hbr).bid hlt
      have hkz : (k : Int) < (n : Int) := by omega
      obtain ⟨M, hM⟩ : ∃ M, mostT A L k = M := ⟨_, rfl⟩
      obtain ⟨V, hV⟩ : ∃ V, gvA A x0 x1 = V := ⟨_, rfl⟩
      have hms := mostT_succ (A := A) hx
      simp only at hms
      rw [hM, hV] at hms
      have HMS := Lib.hid hms
      have KV := Lib.hid (fun U hU => KG.out U hU x0 x1)
      rw [hV] at KV
      rw [hM]
      have q0 := keepB hbr r0
      have q1 := keepB hbr r1
      have q2 := keepB hbr r2
      have zq : w4.heap.size < wr.heap.size := World.block_lt_of_cell? _ _ q0
      have HBR := Lib.hid hbr
      clear hms hV hM hx hbr
      by_cases h0 : 0 < V
      · have hm1 := Lib.hid (show mostT A L (k + 1) = (if M < x2 then x2 else M) by rw [HMS.out, if_pos h0]; split <;> omega)
        go_wp2_with fail
        refine (KV.out _ (bal HBR.out _)).mono ?_
        rintro e w5 ⟨rfl, hb5⟩
        have HB5 := Lib.hid (bup (bal HBR.out _) hb5)
        have c2 : w5.cell? ⟨wr.heap.size, 2, none⟩ = some (.int .i64 x2) := boxed_cell hb5 2 rfl
        go_wp2
        go_roundw
        case rel => exact ⟨k + 1, by omega, by go_num, by rw [hm1.out], HB5.out⟩
        case measure => simp [intOf]; omega
      · have hm1 := Lib.hid (show mostT A L (k + 1) = M by rw [HMS.out, if_neg h0])
        go_wp2_with fail
        refine (KV.out _ (bal HBR.out _)).mono ?_
        rintro e w5 ⟨rfl, hb5⟩
        have HB5 := Lib.hid (bup (bal HBR.out _) hb5)
        go_wp2
        go_roundw
        case rel => exact ⟨k + 1, by omega, by go_num, by rw [hm1.out], HB5.out⟩
        case measure => simp [intOf]; omega
    · have hkn : k = n := by omega
      subst hkn
      clear hlt hk zr
      obtain ⟨M, hM⟩ : ∃ M, mostT A L k = M := ⟨_, rfl⟩
      have hMge := fun x (hx : x ∈ L) (h0 : 0 < gvA A x.bd x.num) => (show x.p ≤ mostT A L k from by
        obtain ⟨i, hi⟩ := List.mem_iff_getElem?.1 hx
        exact mostT_ge k i x hi (by rw [← HN.out]; exact (List.getElem?_eq_some_iff.1 hi).1) h0)
      have HP := Lib.hid (HPR.out _ hMge)
      rw [hM] at HP ⊢
      obtain ⟨wo, hwo⟩ : ∃ u, u = wr := ⟨wr, rfl⟩
      subst hwo
      have HBR := Lib.hid hbr
      replace o0 := keepB hbr o0
      replace o1 := keepB hbr o1
      replace o2 := keepB hbr o2
      replace o3 := keepB hbr o3
      replace r0 := keepB hbr r0
      replace r1 := keepB hbr r1
      replace r2 := keepB hbr r2
      have HBO := Lib.hid (bup HBW.out hbr)
      have HLO := Lib.hid (HLW.out.below hbr)
      have HAO := Lib.hid (HAW.out.below hbr)
      clear hM hMge hbr HPR HLW HAW
      go_wp2
      go_loopw [50] (fun iv wr => ∃ j : Nat, j ≤ m ∧ iv = .int .i64 j ∧ Below wo.heap.size wo wr) (fun iv _ => m - (intOf iv).toNat)
      case atStart => exact ⟨0, by omega, rfl, brefl⟩
      case round =>
        obtain ⟨j, hj, rfl, hbr⟩ := hrel
        have zr := hbr.size
        by_cases hjt : j < m
        · obtain ⟨bb, off, y0, y1, y2, y3, rfl, -, hbb, hy, g0, g1, g2, g3⟩ := (HAO.out.below hbr).awd hjt
          have hjz : (j : Int) < (m : Int) := by omega
          have HPj := Lib.hid (HP.out _ (List.mem_of_getElem? hy))
          replace o0 := keepB hbr o0
          replace o1 := keepB hbr o1
          replace o2 := keepB hbr o2
          replace o3 := keepB hbr o3
          replace r0 := keepB hbr r0
          replace r1 := keepB hbr r1
          replace r2 := keepB hbr r2
          have HBJ := Lib.hid hbr
          obtain ⟨wj, hwj⟩ : ∃ u, u = wr := ⟨wr, rfl⟩
          subst hwj
          clear hbr hy
          go_upto_block 4 with fail
          obtain ⟨V, hV⟩ : ∃ V, V = wj.alloc (.cells #[.int .i64 y0, .int .i64 y1, .int .i64 y2, .int .i64 y3] 42 (0, 0)) := ⟨_, rfl⟩
          rw [← hV]
          have hbV : Below wj.heap.size wj V := by rw [hV]; exact bal brefl _
          have a1 : V.cell? ⟨wj.heap.size, 0, none⟩ = some (.int .i64 y0) := by rw [hV]; exact World.cell?_alloc_at _ _ _ _ rfl
          have a2 : V.cell? ⟨wj.heap.size, 1, none⟩ = some (.int .i64 y1) := by rw [hV]; exact World.cell?_alloc_at _ _ _ _ rfl
          have a3 : V.cell? ⟨wj.heap.size, 3, none⟩ = some (.int .i64 y3) := by rw [hV]; exact World.cell?_alloc_at _ _ _ _ rfl
          replace o1 := keepB hbV o1
          replace o3 := keepB hbV o3
          replace r0 := keepB hbV r0
          have HLV := Lib.hid (HLO.out.below (HBJ.out.trans (Below.mono hbV zr)))
          have HBV := Lib.hid (HBJ.out.trans (Below.mono hbV zr))
          clear hV hbV g0 g1 g2 g3 o0 o2 r1 r2
          go_wp2
          go_loopw [56] (fun iv wr => ∃ i : Nat, i ≤ k ∧ iv = .int .i64 i ∧ Below V.heap.size V wr) (fun iv _ => k - (intOf iv).toNat)
          case atStart => exact ⟨0, by omega, rfl, brefl⟩
          case round =>
            obtain ⟨i, hi, rfl, hbr⟩ := hrel
            have zi := hbr.size
            have b1 := keepB hbr a1
            have b2 := keepB hbr a2
            have b3 := keepB hbr a3
            have p1 := keepB hbr o1
            have p3 := keepB hbr o3
            have s0 := keepB hbr r0
            have z1 : wj.heap.size < wr.heap.size := World.block_lt_of_cell? _ _ b1
            have z2 : w3.heap.size < wr.heap.size := World.block_lt_of_cell? _ _ p1
            have z3 : w4.heap.size < wr.heap.size := World.block_lt_of_cell? _ _ s0
            have HBI := Lib.hid hbr
            by_cases hit : i < k
            · obtain ⟨b5, of5, x0, x1, x2, x3, x4, rfl, -, hbb5, hx, k0, k1, k2, k3, k4⟩ := (HLV.out.below hbr).bid hit
              have hiz : (i : Int) < (k : Int) := by omega
              have HPi := Lib.hid (HPj.out _ (List.mem_of_getElem? hx))
              clear hx hbr
              by_cases e0 : x0 = y0
              · subst e0
                by_cases e1 : x1 = y1
                · subst e1
                  obtain ⟨hz, hu, hf, hc⟩ := HPi.out rfl rfl
                  simp only at hz hu hf hc
                  by_cases hC : C = 0
                  · subst hC
                    obtain ⟨rfl, rfl⟩ := hz rfl
                    clear hz hu hf hc
                    go_wp2
                    go_roundw
                    case rel => exact ⟨i + 1, by omega, by go_num, bal HBI.out _⟩
                    case measure => simp [intOf]; omega
                  · have hC' : (C == 0) = false := by simpa using hC
                    cases un with
                    | true =>
                      obtain ⟨rfl, h6⟩ := hu hC rfl
                      clear hz hu hf hc
                      cases x4 with
                      | true =>
                        go_wp2
                        go_roundw
                        case rel => exact ⟨i + 1, by omega, by go_num, bal HBI.out _⟩
                        case measure => simp [intOf]; omega
                      | false =>
                        have h7 := h6 rfl
                        have h8 : ¬ x2 < y3 := by omega
                        go_wp2
                        go_roundw
                        case rel => exact ⟨i + 1, by omega, by go_num, bal HBI.out _⟩
                        case measure => simp [intOf]; omega
                    | false =>
                      cases x4 with
                      | true =>
                        obtain ⟨h6, h7⟩ := hf hC rfl rfl
                        have h8 : ¬ y3 < C := by omega
                        have h9 : ¬ M < y3 := by omega
                        clear hz hu hf hc
                        go_wp2
                        go_roundw
                        case rel => exact ⟨i + 1, by omega, by go_num, bal HBI.out _⟩
                        case measure => simp [intOf]; omega
                      | false =>
                        obtain ⟨rfl, h7⟩ := hc hC rfl rfl
                        have h8 : ¬ y3 < C := by omega
                        clear hz hu hf hc
                        go_wp2
                        go_roundw
                        case rel => exact ⟨i + 1, by omega, by go_num, bal HBI.out _⟩
                        case measure => simp [intOf]; omega
                · have e1' : (x1 == y1) = false := by simpa using e1
                  go_wp2
                  go_roundw
                  case rel => exact ⟨i + 1, by omega, by go_num, bal HBI.out _⟩
                  case measure => simp [intOf]; omega
              · have e0' : (x0 == y0) = false := by simpa using e0
                go_wp2
                go_roundw
                case rel => exact ⟨i + 1, by omega, by go_num, bal HBI.out _⟩
                case measure => simp [intOf]; omega
            · clear hbr
              go_wp2
              go_roundw
              case rel => exact ⟨j + 1, by omega, by go_num, HBV.out.trans (Below.mono HBI.out HBV.out.size)⟩
              case measure => simp [intOf]; omega
        · have HBJ := Lib.hid hbr
          clear hbr
          go_wp2_with fail
          refine (sane32_any _).mono ?_
          rintro e w9 ⟨rfl, hb9⟩
          go_wp2
          go_ret
          exact ⟨rfl, bup (HBO.out.trans (Below.mono HBJ.out HBO.out.size)) hb9⟩
end Go.Proofs.Ytenbbmmbpjjjpaa
