/- BuybackFair: the walk. -/
import Derived.Test.YtkdbdncboljfhaaL38P
namespace Go.Proofs.Ytkdbdncboljfhaa
open Go.RowKit
set_option linter.unusedVariables false
set_option linter.unusedSimpArgs false
set_option maxHeartbeats 16000000 in
set_option maxRecDepth 100000 in
theorem bfair_walk (a0 : Option Addr) (len0 cap0 : Nat) (w : World) (h1 : len0 ≤ cap0) (h2 : cap0 ≤ maxLen) (hz : len0 = 0 ∨ ∃ b off, a0 = some ⟨b, off, none⟩ ∧ ∀ i, i < len0 → ∃ z : Int, w.cell? ⟨b, off + i, none⟩ = some (.int .i64 z)) :
    Calls Try.prog 4 #[.slice a0 len0 cap0] w fun e w' => e = .returned (.bool true) ∧ Below w.heap.size w w' := by
  go_enter Try.func4, Try.ntmps4
  go_wp2_with fail
  refine (new_any a0 len0 cap0 w h1 h2 hz).mono ?_
  rintro e w1 ⟨sb, rfl, hsb, hS1, hB1⟩
  clear hz
  have hsb1 := srcOk_lt hS1
  have HS1 := Lib.hid hS1
  have HB1 := Lib.hid hB1
  clear hS1 hB1
  go_wp2_with fail
  refine (stenders_any sb 8 _ HS1.out (by decide) (by decide)).mono ?_
  rintro e w2 ⟨tv, L, rfl, hw2, hL, hS2, hG2⟩
  have hl2 : Sl 4 encTdr (fun b => w1.heap.size ≤ b) w2 tv L := Sl.own encTdr_len hw2 rfl (fun _ h => h)
  obtain ⟨ta, n, tc, rfl, hn, -, -⟩ := hl2.shape
  have hn8 : n ≤ 8 := by have := hL.n; omega
  have HS2 := Lib.hid hS2
  have HG2 := Lib.hid hG2
  have HL2 := Lib.hid hl2
  have HN := Lib.hid hn
  have HTD := Lib.hid hL
  clear hw2 hL hS2 hG2 hl2 hn
  go_wp2_with fail
  refine (range_any sb 1 12 _ HS2.out (by decide) (by decide) (by decide)).mono ?_
  rintro e w3 ⟨q0, hq0, rfl, hS3, hG3⟩
  have HQW := Lib.hid (show wrap64 (1000 * q0) = 1000 * q0 ∧ IntKind.i64.wrap (1000 * q0) = 1000 * q0 from ⟨IntWalk.wrap64_in _ (by omega), IntWalk.i64_in _ (by omega)⟩)
  have HS3 := Lib.hid hS3
  have HG3 := Lib.hid hG3
  clear hS3 hG3
  obtain ⟨hqw, hqi⟩ := HQW.out
  go_wp2_with fail
  clear hqw hqi
  refine (pick_lit sb [98500, 100000, 101000] _ _ _ _ HS3.out (by decide) (by decide) rfl rfl rfl).mono ?_
  rintro e w4 ⟨most, hm, rfl, hS4, hG4⟩
  have hm2 : 1 ≤ most ∧ most ≤ 200000 := by simp only [List.mem_cons, List.not_mem_nil, or_false] at hm; omega
  obtain ⟨am, ham⟩ : ∃ am, 1000 * q0 = am := ⟨_, rfl⟩
  have ha : 1000 ≤ am ∧ am ≤ 12000 ∧ am % 1000 = 0 := by omega
  have HI := Lib.hid (HTD.out.into (by decide) (n := am) (most := most) ha.1 (by omega) ha.2.2 hm2.1 hm2.2)
  have HL4 := Lib.hid ((HL2.out.inRow HG3.out (fun b hb => by omega)).inRow hG4 (fun b hb => by omega))
  have HB4 := Lib.hid (HB1.out.trans (below_of_grown (grownBy_trans HG2.out (grownBy_trans HG3.out hG4)) hsb HB1.out.size))
  have KH := Lib.hid (HI.out.hold _ _ _ HL4.out)
  have HFR := Lib.hid (fun x (hx : x ∈ L) => bfair_ok HI.out hx)
  have HGV := Lib.hid HI.out.given
  have HMN := Lib.hid HI.out.min
  have HGB := Lib.hid (fun k => acT_bd (f := gdT most) (L := L) (M := 1000000000) (by decide) (fun x hx => gdT_bd (HI.out.ok x hx)) k)
  have HNB := Lib.hid (fun k => acT_bd (f := fun x => gvA (bkA L am most) x.h x.n) (L := L) (M := 1000000000) (by decide) (fun x hx => ⟨(HFR.out x hx).n0, Int.le_trans (HFR.out x hx).asks (HI.out.ok x hx).a1⟩) k)
  have hAl : (bkA L am most).length ≤ 1000 := by have := bkA_len L am most; have := HN.out; omega
  obtain ⟨C, hC⟩ : ∃ x, bkC L am most = x := ⟨_, rfl⟩
  obtain ⟨T, hT⟩ : ∃ x, bkS L am most = x := ⟨_, rfl⟩
  obtain ⟨A, hA⟩ : ∃ x, bkA L am most = x := ⟨_, rfl⟩
  rw [hC, hT, hA] at KH
  rw [hC, hA] at HFR
  rw [hA, hT] at HGV
  rw [hT] at HMN
  rw [hA] at HNB hAl
  have hTam : ¬ am < T := by have := HMN.out; omega
  have HAL := Lib.hid hAl
  rw [ham]
  clear hC hT hA HI HTD hS4 hG4 hAl hm HS1 HS2 HS3 HG2 HG3 HL2 HQW ham hq0
  go_wp2_with fail
  refine KH.out.mono ?_
  rintro e w5 ⟨av, rfl, hw5, hb5⟩
  have hA5 : Sl 4 encAwd (fun _ => True) w5 av A := Sl.own encAwd_len hw5 rfl (fun _ _ => trivial)
  obtain ⟨aa, m, ac, rfl, hm, -, -⟩ := hA5.shape
  have HL5 := Lib.hid (HL4.out.below hb5)
  have HB5 := Lib.hid (bup HB4.out hb5)
  have HA5 := Lib.hid hA5
  have hm1 : m ≤ 1000 := by have := HAL.out; omega
  clear hw5 hb5 hA5 KH HL4 hm
  go_upto_region 5 with fail
  obtain ⟨W, hW⟩ : ∃ W, W = w5.alloc (.cells #[.int .i64 C, .int .i64 T, .slice aa m ac] 33 (0, 0)) := ⟨_, rfl⟩
  rw [← hW]
  have hbW : Below w5.heap.size w5 W := by rw [hW]; exact bal brefl _
  have r0 : W.cell? ⟨w5.heap.size, 0, none⟩ = some (.int .i64 C) := by rw [hW]; exact World.cell?_alloc_at _ _ _ _ rfl
  have r1 : W.cell? ⟨w5.heap.size, 1, none⟩ = some (.int .i64 T) := by rw [hW]; exact World.cell?_alloc_at _ _ _ _ rfl
  have r2 : W.cell? ⟨w5.heap.size, 2, none⟩ = some (.slice aa m ac) := by rw [hW]; exact World.cell?_alloc_at _ _ _ _ rfl
  have HLW := Lib.hid (HL5.out.below hbW)
  have HAW := Lib.hid (HA5.out.below hbW)
  have HBW := Lib.hid (bup HB5.out hbW)
  clear hW hbW HL5 HA5
  have KG := Lib.hid (fun (U : World) (hU : Below W.heap.size W U) (b n : Int) => rgiven_any (fun _ => True) C T _ A b n U (HAW.out.below hU) HAL.out)
  go_wp2
  go_loopw [41, 9, 10] (fun iv sv gv wr => ∃ k : Nat, k ≤ n ∧ iv = .int .i64 k ∧ sv = .int .i64 (acT (fun x => gvA A x.h x.n) L k) ∧ gv = .int .i64 (acT (gdT most) L k) ∧ Below W.heap.size W wr) (fun iv sv gv _ => n - (intOf iv).toNat)
  case atStart => exact ⟨0, by omega, rfl, rfl, rfl, brefl⟩
  case round =>
    obtain ⟨k, hk, rfl, rfl, rfl, hbr⟩ := hrel
    have zr := hbr.size
    have q0 := keepB hbr r0
    have q1 := keepB hbr r1
    have q2 := keepB hbr r2
    have zq : w5.heap.size < wr.heap.size := World.block_lt_of_cell? _ _ q0
    by_cases hlt : k < n
    · obtain ⟨bb, off, x0, x1, x2, x3, rfl, -, hbb, hx, k0, k1, k2, k3⟩ := (HLW.out.below hbr).tdr hlt
      have hkz : (k : Int) < (n : Int) := by omega
      have e1 := acT_succ (f := fun x => gvA A x.h x.n) hx
      have e2 := acT_succ (f := gdT most) hx
      have hF := HFR.out _ (List.mem_of_getElem? hx)
      obtain ⟨sb0, sb1⟩ := HNB.out k
      obtain ⟨gb0, gb1⟩ := HGB.out k
      have sbn0 := HNB.out (k + 1)
      have gbn0 := HGB.out (k + 1)
      rw [e1] at sbn0
      rw [e2] at gbn0
      obtain ⟨SS, hSS⟩ : ∃ s, acT (fun x => gvA A x.h x.n) L k = s := ⟨_, rfl⟩
      obtain ⟨GG, hGG⟩ : ∃ s, acT (gdT most) L k = s := ⟨_, rfl⟩
      obtain ⟨V, hV⟩ : ∃ V, gvA A x0 x1 = V := ⟨_, rfl⟩
      simp only at e1 sbn0 hF
      rw [hV] at e1 sbn0 hF
      rw [hSS] at e1 sb0 sb1 sbn0 ⊢
      rw [hGG] at e2 gb0 gb1 gbn0 ⊢
      obtain ⟨f1, f2, f3, f4, f5⟩ := hF
      simp only at f1 f3 f4 f5
      have KV := Lib.hid (fun U hU => KG.out U hU x0 x1)
      rw [hV] at KV
      have E1 := Lib.hid e1
      have E2 := Lib.hid e2
      have HBR := Lib.hid hbr
      have sS : 0 ≤ SS ∧ SS ≤ 9000000000 := ⟨sb0, by omega⟩
      have sG : 0 ≤ GG ∧ GG ≤ 9000000000 := ⟨gb0, by omega⟩
      have sV : 0 ≤ SS + V ∧ SS + V ≤ 10000000000 := ⟨sbn0.1, by have := sbn0.2; omega⟩
      have gD : gdT most ⟨x0, x1, x2, x3⟩ = if x2 ≤ most then x3 else 0 := rfl
      have HGB2 := Lib.hid gbn0
      have hva : ¬ x3 < V := by omega
      have hw1 : wrap64 (SS + V) = SS + V := IntWalk.wrap64_in _ (by omega)
      have hi1 : IntKind.i64.wrap (SS + V) = SS + V := IntWalk.i64_in _ (by omega)
      clear hSS hGG hV e1 e2 hx hbr sb0 sb1 gb0 gb1 sbn0 gbn0
      go_wp2_with fail
      refine (KV.out _ (bal HBR.out _)).mono ?_
      rintro e w6 ⟨rfl, hb6⟩
      have HB6 := Lib.hid (bup (bal HBR.out _) hb6)
      have c2 : w6.cell? ⟨wr.heap.size, 2, none⟩ = some (.int .i64 x2) := boxed_cell hb6 2 rfl
      have c3 : w6.cell? ⟨wr.heap.size, 3, none⟩ = some (.int .i64 x3) := boxed_cell hb6 3 rfl
      have d0 := keepB (bup (bal brefl _) hb6) q0
      have z5 : wr.heap.size < w6.heap.size := World.block_lt_of_cell? _ _ c2
      have z6 : w5.heap.size < w6.heap.size := by omega
      clear k0 k1 k2 k3 hb6 q0 q1 q2 zq
      by_cases hl : most < x2
      · have hg0 := Lib.hid (show acT (gdT most) L (k + 1) = GG by rw [E2.out, gD, if_neg (by omega)]; omega)
        have hv0 := f3 hl
        have hl2 : ¬ x2 ≤ most := by omega
        subst hv0
        clear gD f3 f4 f5
        go_wp2
        go_roundw
        case rel => exact ⟨k + 1, by omega, by go_num, by rw [E1.out] <;> (try simp), by rw [hg0.out], HB6.out⟩
        case measure => simp [intOf]; omega
      · have hl2 : x2 ≤ most := by omega
        have hgx := Lib.hid (show acT (gdT most) L (k + 1) = GG + x3 by rw [E2.out, gD, if_pos hl2])
        have hgb : 0 ≤ GG + x3 ∧ GG + x3 ≤ 10000000000 := by have := HGB2.out; rw [gD, if_pos hl2] at this; exact ⟨this.1, by have := this.2; omega⟩
        have hw2 : wrap64 (GG + x3) = GG + x3 := IntWalk.wrap64_in _ (by omega)
        have hi2 : IntKind.i64.wrap (GG + x3) = GG + x3 := IntWalk.i64_in _ (by omega)
        clear gD f3
        by_cases hC0 : 0 < C
        · by_cases h5 : x2 < C
          · have hvx := f4 hl2 hC0 h5
            have h6 : ¬ C < x2 := by omega
            subst hvx
            clear f4 f5
            go_wp2
            go_roundw
            case rel => exact ⟨k + 1, by omega, by go_num, by rw [E1.out] <;> (try simp), by rw [hgx.out], HB6.out⟩
            case measure => simp [intOf]; omega
          · by_cases h6 : C < x2
            · have hvx := f5 hl2 hC0 h6
              subst hvx
              clear f4 f5
              go_wp2
              go_roundw
              case rel => exact ⟨k + 1, by omega, by go_num, by rw [E1.out] <;> (try simp), by rw [hgx.out], HB6.out⟩
              case measure => simp [intOf]; omega
            · clear f4 f5
              go_wp2
              go_roundw
              case rel => exact ⟨k + 1, by omega, by go_num, by rw [E1.out] <;> (try simp), by rw [hgx.out], HB6.out⟩
              case measure => simp [intOf]; omega
        · clear f4 f5
          go_wp2
          go_roundw
          case rel => exact ⟨k + 1, by omega, by go_num, by rw [E1.out] <;> (try simp), by rw [hgx.out], HB6.out⟩
          case measure => simp [intOf]; omega
    · have hkn : k = L.length := by have := HN.out; omega
      have hs : acT (fun x => gvA A x.h x.n) L k = T := by rw [hkn]; exact HGV.out
      have hg := HMN.out
      rw [← hkn] at hg
      obtain ⟨GG, hGG⟩ : ∃ s, acT (gdT most) L k = s := ⟨_, rfl⟩
      rw [hs, hGG]
      rw [hGG] at hg
      have HBR := Lib.hid hbr
      clear hbr hkn hs hGG
      by_cases hlt2 : GG < am
      · have hT2 : T = GG := by omega
        subst hT2
        clear hg
        go_wp2_with fail
        refine (sane38_any _).mono ?_
        rintro e w9 ⟨rfl, hb9⟩
        go_wp2
        go_ret
        exact ⟨rfl, bup (HBW.out.trans (Below.mono HBR.out HBW.out.size)) hb9⟩
      · have hT2 : T = am := by omega
        subst hT2
        clear hg
        go_wp2_with fail
        refine (sane38_any _).mono ?_
        rintro e w9 ⟨rfl, hb9⟩
        go_wp2
        go_ret
        exact ⟨rfl, bup (HBW.out.trans (Below.mono HBR.out HBW.out.size)) hb9⟩
end Go.Proofs.Ytkdbdncboljfhaa
