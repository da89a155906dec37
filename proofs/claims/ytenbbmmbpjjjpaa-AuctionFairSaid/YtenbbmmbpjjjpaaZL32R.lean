/- AuctionFair: the walk. -/
import Derived.Test.YtenbbmmbpjjjpaaZL32F
import Derived.Test.YtenbbmmbpjjjpaaZL32Q
namespace Go.Proofs.Ytenbbmmbpjjjpaa
open Go.RowKit
set_option linter.unusedVariables false
set_option linter.unusedSimpArgs false
theorem gdB_bd {le : Int} {x : Bid} (h : BidOk x) : 0 ≤ gdB le x ∧ gdB le x ≤ 1000000000 := by
  have := h.a0; have := h.a1
  unfold gdB; split <;> omega
set_option maxHeartbeats 16000000 in
set_option maxRecDepth 100000 in
theorem fair_walk (a0 : Option Addr) (len0 cap0 : Nat) (w : World) (h1 : len0 ≤ cap0) (h2 : cap0 ≤ maxLen) (hz : len0 = 0 ∨ ∃ b off, a0 = some ⟨b, off, none⟩ ∧ ∀ i, i < len0 → ∃ z : Int, w.cell? ⟨b, off + i, none⟩ = some (.int .i64 z)) :
    Calls Try.prog 3 #[.slice a0 len0 cap0] w fun e w' => e = .returned (.bool true) ∧ Below w.heap.size w w' := by
  go_enter Try.func3, Try.ntmps3
  go_wp2_with fail
  refine (new_any a0 len0 cap0 w h1 h2 hz).mono ?_
  rintro e w1 ⟨sb, rfl, hsb, hS1, hB1⟩
  clear hz
  have HS1 := Lib.hid hS1
  have HB1 := Lib.hid hB1
  clear hS1 hB1
  go_wp2_with fail
  refine (soffer_any sb _ HS1.out).mono ?_
  rintro e w2 ⟨am, le, sh, un, rfl, ho, hS2, hG2⟩
  have HS2 := Lib.hid hS2
  have HG2 := Lib.hid hG2
  clear hS2 hG2
  go_wp2_with fail
  refine (sbids_any sb 9 _ HS2.out (by decide) (by decide)).mono ?_
  rintro e w3 ⟨bv, L, rfl, hw3, hL, hS3, hG3⟩
  have HI := Lib.hid (hL.into (by decide) ho)
  have hb3 := Sl.own (P := fun _ => True) encBid_len hw3 rfl (fun _ _ => trivial)
  obtain ⟨ba, n, bc, rfl, hn, -, -⟩ := hb3.shape
  have hn9 : n ≤ 9 := by have := hL.n; omega
  have HB3 := Lib.hid (HB1.out.trans (below_of_grown (grownBy_trans HG2.out hG3) hsb HB1.out.size))
  have HL3 := Lib.hid hb3
  clear hw3 hS3 hG3 hb3 hL
  have KH := Lib.hid (fun (U : World) (hU : Below w3.heap.size w3 U) => hold_any (fun _ => True) am le sh un _ L U (HL3.out.below hU) HI.out.ok HI.out.k HI.out.n HI.out.o HI.out.p)
  have HFR := Lib.hid (fun b (hb : b ∈ L) => fair_ok HI.out hb un)
  have HGV := Lib.hid (HI.out.given un)
  have HSL := Lib.hid HI.out.sold_le
  have HAS := Lib.hid HI.out.all_sold
  have HGB := Lib.hid (fun k => acT_bd (f := gdB le) (L := L) (M := 1000000000) (by decide) (fun x hx => gdB_bd (HI.out.ok x hx)) k)
  have HNB := Lib.hid (fun k => acT_bd (f := fun b => gvA (hdA am le sh un L) b.bd b.num) (L := L) (M := 1000000000) (by decide) (fun x hx => by have := HFR.out x hx; have := HI.out.ok x hx; exact ⟨(HFR.out x hx).n0, Int.le_trans (HFR.out x hx).asks (HI.out.ok x hx).a1⟩) k)
  have hAl : (hdA am le sh un L).length ≤ 1000 := by have := awT_len le un (srB L) (hdG am le sh (srB L)) (srB L).length; have := HI.out.S60; unfold hdA; omega
  obtain ⟨C, hC⟩ : ∃ x, hdC am le sh L = x := ⟨_, rfl⟩
  obtain ⟨T, hT⟩ : ∃ x, hdS am le sh L = x := ⟨_, rfl⟩
  obtain ⟨A, hA⟩ : ∃ x, hdA am le sh un L = x := ⟨_, rfl⟩
  rw [hC, hT, hA] at KH
  rw [hC, hA] at HFR
  rw [hA, hT] at HGV
  rw [hT] at HSL HAS
  rw [hA] at HNB
  rw [hA] at hAl
  clear hC hT hA HI
  have HO := Lib.hid ho
  have HN := Lib.hid hn
  have HAL := Lib.hid hAl
  clear ho hn hAl
  go_wp2_with fail
  refine (KH.out _ (bal brefl _)).mono ?_
  rintro e w4 ⟨av, rfl, hw4, hb4⟩
  have o0 : w4.cell? ⟨w3.heap.size, 0, none⟩ = some (.int .i64 am) := boxed_cell hb4 0 rfl
  have o1 : w4.cell? ⟨w3.heap.size, 1, none⟩ = some (.int .i64 le) := boxed_cell hb4 1 rfl
  have o2 : w4.cell? ⟨w3.heap.size, 2, none⟩ = some (.int .i64 sh) := boxed_cell hb4 2 rfl
  have o3 : w4.cell? ⟨w3.heap.size, 3, none⟩ = some (.bool un) := boxed_cell hb4 3 rfl
  have hA4 : Sl 4 encAwd (fun _ => True) w4 av A := Sl.own encAwd_len hw4 rfl (fun _ _ => trivial)
  obtain ⟨aa, m, ac, rfl, hm, -, -⟩ := hA4.shape
  have hB4 := bup (bal brefl _) hb4
  have HL4 := Lib.hid (HL3.out.below hB4)
  have HB4 := Lib.hid (bup HB3.out hB4)
  have HA4 := Lib.hid hA4
  have HM := Lib.hid hm
  have hm1 : m ≤ 1000 := by have := HAL.out; omega
  clear hw4 hb4 hA4 hB4 KH HL3
  go_upto_region 4 with fail
  obtain ⟨W, hW⟩ : ∃ W, W = w4.alloc (.cells #[.int .i64 C, .int .i64 T, .slice aa m ac] 32 (0, 0)) := ⟨_, rfl⟩
  rw [← hW]
  have hbW : Below w4.heap.size w4 W := by rw [hW]; exact bal brefl _
  have r0 : W.cell? ⟨w4.heap.size, 0, none⟩ = some (.int .i64 C) := by rw [hW]; exact World.cell?_alloc_at _ _ _ _ rfl
  have r1 : W.cell? ⟨w4.heap.size, 1, none⟩ = some (.int .i64 T) := by rw [hW]; exact World.cell?_alloc_at _ _ _ _ rfl
  have r2 : W.cell? ⟨w4.heap.size, 2, none⟩ = some (.slice aa m ac) := by rw [hW]; exact World.cell?_alloc_at _ _ _ _ rfl
  replace o0 := keepB hbW o0
  replace o1 := keepB hbW o1
  replace o2 := keepB hbW o2
  replace o3 := keepB hbW o3
  have HLW := Lib.hid (HL4.out.below hbW)
  have HAW := Lib.hid (HA4.out.below hbW)
  have HBW := Lib.hid (bup HB4.out hbW)
  clear hW hbW HL4 HA4
  have KG := Lib.hid (fun (U : World) (hU : Below W.heap.size W U) (b n : Int) => given_any (fun _ => True) C T _ A b n U (HAW.out.below hU) HAL.out)
  obtain ⟨hsl0, hsl1⟩ := HSL.out
  have hsl2 : ¬ am < T := by omega
  go_wp2
  go_loopw [36, 8, 9] (fun iv sv gv wr => ∃ k : Nat, k ≤ n ∧ iv = .int .i64 k ∧ sv = .int .i64 (acT (fun b => gvA A b.bd b.num) L k) ∧ gv = .int .i64 (acT (gdB le) L k) ∧ Below W.heap.size W wr) (fun iv sv gv _ => n - (intOf iv).toNat)
  case atStart => exact ⟨0, by omega, rfl, rfl, rfl, brefl⟩
  case round =>
    obtain ⟨k, hk, rfl, rfl, rfl, hbr⟩ := hrel
    have zr := hbr.size
    have q0 := keepB hbr r0
    have q1 := keepB hbr r1
    have q2 := keepB hbr r2
    have p0 := keepB hbr o0
    have p1 := keepB hbr o1
    have zq : w4.heap.size < wr.heap.size := World.block_lt_of_cell? _ _ q0
    have zp : w3.heap.size < wr.heap.size := World.block_lt_of_cell? _ _ p0
    by_cases hlt : k < n
    · obtain ⟨bb, off, x0, x1, x2, x3, x4, rfl, -, hbb, hx, k0, k1, k2, k3, k4⟩ := (HLW.out.below hbr).bid hlt
      have hkz : (k : Int) < (n : Int) := by omega
      have e1 := acT_succ (f := fun b => gvA A b.bd b.num) hx
      have e2 := acT_succ (f := gdB le) hx
      have hF := HFR.out _ (List.mem_of_getElem? hx)
      obtain ⟨sb0, sb1⟩ := HNB.out k
      obtain ⟨gb0, gb1⟩ := HGB.out k
      have sbn0 := HNB.out (k + 1)
      have gbn0 := HGB.out (k + 1)
      rw [e1] at sbn0
      rw [e2] at gbn0
      obtain ⟨SS, hSS⟩ : ∃ s, acT (fun b => gvA A b.bd b.num) L k = s := ⟨_, rfl⟩
      obtain ⟨GG, hGG⟩ : ∃ s, acT (gdB le) L k = s := ⟨_, rfl⟩
      obtain ⟨V, hV⟩ : ∃ V, gvA A x0 x1 = V := ⟨_, rfl⟩
      simp only at e1 sbn0 hF
      rw [hV] at e1 sbn0 hF
      rw [hSS] at e1 sb0 sb1 sbn0 ⊢
      rw [hGG] at e2 gb0 gb1 gbn0 ⊢
      obtain ⟨f1, f2, f3, f4, f5, f6⟩ := hF
      simp only at f1 f4 f5 f6
      have KV := Lib.hid (fun U hU => KG.out U hU x0 x1)
      rw [hV] at KV
      have E1 := Lib.hid e1
      have E2 := Lib.hid e2
      have HBR := Lib.hid hbr
      have hk9 : (k : Int) ≤ 9 := by omega
      have sS : 0 ≤ SS ∧ SS ≤ 9000000000 := ⟨sb0, by omega⟩
      have sG : 0 ≤ GG ∧ GG ≤ 9000000000 := ⟨gb0, by omega⟩
      have sV : 0 ≤ SS + V ∧ SS + V ≤ 10000000000 := ⟨sbn0.1, by have := sbn0.2; omega⟩
      have gD : gdB le ⟨x0, x1, x2, x3, x4⟩ = if x4 = false ∧ le ≤ x2 then x3 else 0 := rfl
      have HGB2 := Lib.hid gbn0
      have ht : Int.tmod V 1000 = 0 := by rw [Int.tmod_eq_emod_of_nonneg f3]; exact f2
      have hva : ¬ x3 < V := by omega
      have hw1 : wrap64 (SS + V) = SS + V := IntWalk.wrap64_in _ (by omega)
      have hi1 : IntKind.i64.wrap (SS + V) = SS + V := IntWalk.i64_in _ (by omega)
      clear hSS hGG hV e1 e2 hx hbr sb0 sb1 gb0 gb1 sbn0 gbn0 f2
      go_wp2_with fail
      refine (KV.out _ (bal HBR.out _)).mono ?_
      rintro e w5 ⟨rfl, hb5⟩
      have HB5 := Lib.hid (bup (bal HBR.out _) hb5)
      have c2 : w5.cell? ⟨wr.heap.size, 2, none⟩ = some (.int .i64 x2) := boxed_cell hb5 2 rfl
      have c3 : w5.cell? ⟨wr.heap.size, 3, none⟩ = some (.int .i64 x3) := boxed_cell hb5 3 rfl
      have c4 : w5.cell? ⟨wr.heap.size, 4, none⟩ = some (.bool x4) := boxed_cell hb5 4 rfl
      have d0 := keepB (bup (bal brefl _) hb5) q0
      have d1 := keepB (bup (bal brefl _) hb5) p1
      have z5 : wr.heap.size < w5.heap.size := World.block_lt_of_cell? _ _ c2
      have z6 : w4.heap.size < w5.heap.size := by omega
      have z7 : w3.heap.size < w5.heap.size := by omega
      clear k0 k1 k2 k3 k4 hb5 q0 q1 q2 p0 p1 zq zp
      cases x4 with
      | true =>
        have hg0 := Lib.hid (show acT (gdB le) L (k + 1) = GG by rw [E2.out, gD, if_neg (fun h => by cases h.1)]; omega)
        clear gD f4 f5 f6
        go_wp2
        go_roundw
        case rel => exact ⟨k + 1, by omega, by go_num, by rw [E1.out] <;> (try simp), by rw [hg0.out], HB5.out⟩
        case measure => simp [intOf]; omega
      | false =>
        by_cases hl : x2 < le
        · have hg0 := Lib.hid (show acT (gdB le) L (k + 1) = GG by rw [E2.out, gD, if_neg (fun h => by have := h.2; omega)]; omega)
          have hv0 := f4 rfl hl
          have hl2 : ¬ le ≤ x2 := by omega
          subst hv0
          clear gD f4 f5 f6
          go_wp2
          go_roundw
          case rel => exact ⟨k + 1, by omega, by go_num, by rw [E1.out] <;> (try simp), by rw [hg0.out], HB5.out⟩
          case measure => simp [intOf]; omega
        · have hl2 : le ≤ x2 := by omega
          have hgx := Lib.hid (show acT (gdB le) L (k + 1) = GG + x3 by rw [E2.out, gD, if_pos ⟨rfl, hl2⟩])
          have hgb : 0 ≤ GG + x3 ∧ GG + x3 ≤ 10000000000 := by have := HGB2.out; rw [gD, if_pos ⟨rfl, hl2⟩] at this; exact ⟨this.1, by have := this.2; omega⟩
          have hw2 : wrap64 (GG + x3) = GG + x3 := IntWalk.wrap64_in _ (by omega)
          have hi2 : IntKind.i64.wrap (GG + x3) = GG + x3 := IntWalk.i64_in _ (by omega)
          clear gD f4
          by_cases hC0 : 0 < C
          · by_cases h5 : C < x2
            · have hvx := f5 rfl hl2 hC0 h5
              have h6 : ¬ x2 < C := by omega
              subst hvx
              clear f5 f6
              go_wp2
              go_roundw
              case rel => exact ⟨k + 1, by omega, by go_num, by rw [E1.out] <;> (try simp), by rw [hgx.out], HB5.out⟩
              case measure => simp [intOf]; omega
            · by_cases h6 : x2 < C
              · have hvx := f6 rfl hl2 hC0 h6
                subst hvx
                clear f5 f6
                go_wp2
                go_roundw
                case rel => exact ⟨k + 1, by omega, by go_num, by rw [E1.out] <;> (try simp), by rw [hgx.out], HB5.out⟩
                case measure => simp [intOf]; omega
              · clear f5 f6
                go_wp2
                go_roundw
                case rel => exact ⟨k + 1, by omega, by go_num, by rw [E1.out] <;> (try simp), by rw [hgx.out], HB5.out⟩
                case measure => simp [intOf]; omega
          · clear f5 f6
            go_wp2
            go_roundw
            case rel => exact ⟨k + 1, by omega, by go_num, by rw [E1.out] <;> (try simp), by rw [hgx.out], HB5.out⟩
            case measure => simp [intOf]; omega
    · have hkn : k = L.length := by have := HN.out; omega
      have hs : acT (fun b => gvA A b.bd b.num) L k = T := by rw [hkn]; exact HGV.out
      have hg := HAS.out
      rw [← hkn] at hg
      obtain ⟨GG, hGG⟩ : ∃ s, acT (gdB le) L k = s := ⟨_, rfl⟩
      rw [hs, hGG]
      rw [hGG] at hg
      have HBR := Lib.hid hbr
      clear hbr hkn hs hGG
      by_cases hlt2 : GG < am
      · clear hg
        go_wp2_with fail
        refine (sane32_any _).mono ?_
        rintro e w9 ⟨rfl, hb9⟩
        go_wp2
        go_ret
        exact ⟨rfl, bup (HBW.out.trans (Below.mono HBR.out HBW.out.size)) hb9⟩
      · have hT2 : T = am := by rcases hg with h | h; (exact absurd h hlt2); (exact h)
        subst hT2
        clear hg
        go_wp2_with fail
        refine (sane32_any _).mono ?_
        rintro e w9 ⟨rfl, hb9⟩
        go_wp2
        go_ret
        exact ⟨rfl, bup (HBW.out.trans (Below.mono HBR.out HBW.out.size)) hb9⟩
end Go.Proofs.Ytenbbmmbpjjjpaa
