/- RiskFalls: the walk. -/
import Derived.Test.YtmhglabcnimegaaZL39F
import Derived.Test.YtmhglabcnimegaaZL39Base
import Derived.Lib.MinMax
namespace Go.Proofs.Ytmhglabcnimegaa
open Go.RowKit
set_option linter.unusedVariables false
set_option linter.unusedSimpArgs false
set_option maxHeartbeats 16000000 in
set_option maxRecDepth 100000 in
theorem rfalls_walk (k0 : Option Addr) (len0 cap0 : Nat) (w : World) (h1 : len0 ≤ cap0) (h2 : cap0 ≤ maxLen) (hz : len0 = 0 ∨ ∃ b off, k0 = some ⟨b, off, none⟩ ∧ ∀ i, i < len0 → ∃ z : Int, w.cell? ⟨b, off + i, none⟩ = some (.int .i64 z)) :
    Calls Try.prog 10 #[.slice k0 len0 cap0] w fun e w' => e = .returned (.bool true) ∧ Below w.heap.size w w' := by
  go_enter Try.func10, Try.ntmps10
  go_wp2_with fail
  refine (new_any k0 len0 cap0 w h1 h2 hz).mono ?_
  rintro e w1 ⟨sb, rfl, hsb, hS1, hB1⟩
  clear hz
  go_wp2_with fail
  refine (sreg_any sb 8 w1 hS1 (by omega)).mono ?_
  rintro e w2 ⟨vs, vh, vm, R, day, rfl, hlike, hml, hdl, hR, hS2, hG2⟩
  have hlt := srcOk_lt hS1
  have hB2 : Below w.heap.size w w2 := hB1.trans (below_of_grown hG2 hsb hB1.size)
  have z2 := hG2.size
  obtain ⟨a0, n0, c0, rfl, -, -, -⟩ := hR.S.shape
  obtain ⟨a1, n1, c1, rfl, hl1, -, -⟩ := hR.H.shape
  obtain ⟨a2, n2, c2, rfl, -, -, -⟩ := hR.M.shape
  have hls : R.secs.length ≤ 1000000 := by have := hlike.ok.ls; omega
  have hlh : R.hs.length ≤ 1000000 := by have := hlike.ok.hl; omega
  have hlm : R.ms.length ≤ 1000000 := by omega
  have HOK := Lib.hid hlike.ok
  have hd0 := hlike.day0
  have hd1 : day ≤ 36000 := by omega
  have hn1 : n1 ≤ 1000000 := by omega
  have HL1 := Lib.hid hl1
  obtain ⟨D, hD⟩ : ∃ D, rgDebt R = D := ⟨_, rfl⟩
  obtain ⟨Lf, hLf⟩ : ∃ L, fsL R 0 60 = L := ⟨_, rfl⟩
  have hlen : Lf.length = 60 := by rw [← hLf]; exact fsL_len (fsE_ok HOK.out)
  have htot : sumF id Lf = D := by rw [← hLf, ← hD]; exact fs_total hlike
  have hdb := HOK.out.tot
  rw [hdb.2.2, hD] at hdb
  have hbd : ∀ x ∈ Lf, 0 ≤ x ∧ x ≤ D := by rw [← hLf, ← hD]; exact fsL_bd (fsE_ok HOK.out)
  obtain ⟨y, hy, hy60, hyL, hp0, hp1⟩ := gt_facts HOK.out
  obtain ⟨p, hp⟩ : ∃ p, gtP R 0 60 = p := ⟨_, rfl⟩
  rw [hLf] at hyL
  rw [hp] at hp0 hp1
  have hmx := max_zero (L := Lf) (by omega) fun x hx => (hbd x hx).1
  have HFS := Lib.hid (fun W (hW : RgIn (fun _ => True) W (.slice a0 n0 c0) (.slice a1 n1 c1) (.slice a2 n2 c2) R) => falls_any (fun _ => True) _ _ _ R 0 60 W hW hls hlh hlm)
  have HGT := Lib.hid (fun W (hW : RgIn (fun _ => True) W (.slice a0 n0 c0) (.slice a1 n1 c1) (.slice a2 n2 c2) R) => greatest_any (fun _ => True) _ _ _ R 0 60 W hW hls hlh hlm)
  have HTM := Lib.hid (fun W (hW : RgIn (fun _ => True) W (.slice a0 n0 c0) (.slice a1 n1 c1) (.slice a2 n2 c2) R) => term_any (fun _ => True) _ _ _ R day W hW hls hlh hlm)
  have HDB := Lib.hid (fun W (hW : RgIn (fun _ => True) W (.slice a0 n0 c0) (.slice a1 n1 c1) (.slice a2 n2 c2) R) => fDebt_any (fun _ => True) _ _ _ R W hW hls hlh hlm)
  have htn : tmNum R day = sumF (tmN R day) R.hs := by unfold tmNum; rw [if_pos (tmE_ok HOK.out hd0 hd1)]
  have htd : tmDen R day = sumF (tmD R day) R.hs := by unfold tmDen; rw [if_pos (tmE_ok HOK.out hd0 hd1)]
  have hng := num_ge HOK.out day
  have hnl := num_le HOK.out day
  have htb := tmN_tot HOK.out hd0 R.hs.length
  have hdb2 := tmD_tot HOK.out day R.hs.length
  rw [List.take_length] at htb hdb2
  obtain ⟨num, hnum⟩ : ∃ z, sumF (tmN R day) R.hs = z := ⟨_, rfl⟩
  obtain ⟨den, hden⟩ : ∃ z, sumF (tmD R day) R.hs = z := ⟨_, rfl⟩
  rw [hnum] at htn hng hnl htb
  rw [hden] at htd hng hnl hdb2
  rw [hLf, fsE_ok HOK.out] at HFS
  rw [hy, hp, fsE_ok HOK.out] at HGT
  unfold TmW at HTM
  rw [htn, htd, tmE_ok HOK.out hd0 hd1] at HTM
  rw [hD] at HDB
  have HLEN := Lib.hid hlen
  have HTOT := Lib.hid htot
  have HBD := Lib.hid hbd
  have HYL := Lib.hid hyL
  have HMX := Lib.hid hmx
  have HNG := Lib.hid hng
  have HNL := Lib.hid hnl
  clear hlen htot hbd hyL hmx hng hnl hD hLf hy hp htn htd hnum hden hl1
  go_wp2_with fail
  obtain ⟨W2, hW2⟩ : ∃ W, W = w2.alloc (.cells #[.slice a0 n0 c0, .slice a1 n1 c1, .slice a2 n2 c2] 29 (0, 0)) := ⟨_, rfl⟩
  have hR2 : RgIn (fun _ => True) W2 (.slice a0 n0 c0) (.slice a1 n1 c1) (.slice a2 n2 c2) R := by rw [hW2]; exact (hR.mono (fun b hb hl => trivial)).below (bal brefl _)
  have hx2 : W2.heap[w2.heap.size]? = some (.cells #[.slice a0 n0 c0, .slice a1 n1 c1, .slice a2 n2 c2] 29 (0, 0)) := by rw [hW2]; exact heap_alloc_new w2 _
  have hB2' : Below w.heap.size w W2 := by rw [hW2]; exact hB2.alloc hB2.size _
  have HR2 := Lib.hid hR2
  have y0 := cell_heap (i := 0) hx2 rfl
  have y1 := cell_heap (i := 1) hx2 rfl
  have y2 := cell_heap (i := 2) hx2 rfl
  have HB2' := Lib.hid hB2'
  rw [← hW2]
  clear hR hS2 hG2 hB2 hB1 hS1 hW2 hR2 hx2 hB2' hlike hml hdl
  refine (HFS.out _ HR2.out).mono ?_
  rintro e w3 ⟨v3, rfl, hown3, hb3⟩
  obtain ⟨f3, c3, rfl⟩ := own_slice0 hown3
  have hs3 : Sl 1 encI (fun _ => True) w3 (.slice f3 Lf.length c3) Lf := Sl.own encI_len hown3 rfl (fun _ _ => trivial)
  rw [HLEN.out] at hs3 ⊢
  have HS3 := Lib.hid hs3
  replace y0 := keepB hb3 y0
  replace y1 := keepB hb3 y1
  replace y2 := keepB hb3 y2
  have HB3 := Lib.hid hb3
  clear hb3 hown3 hs3
  go_wp2_with fail
  refine (HGT.out _ (HR2.out.below HB3.out)).mono ?_
  rintro e w4 ⟨rfl, hb4⟩
  replace y0 := keepB hb4 y0
  replace y1 := keepB hb4 y1
  replace y2 := keepB hb4 y2
  have HS4 := Lib.hid (HS3.out.below hb4)
  have HB4 := Lib.hid (bup HB3.out hb4)
  clear hb4 HS3
  go_wp2_with fail
  refine (HTM.out _ (HR2.out.below HB4.out)).mono ?_
  rintro e w5 ⟨rfl, hb5⟩
  replace y0 := keepB hb5 y0
  replace y1 := keepB hb5 y1
  replace y2 := keepB hb5 y2
  have HS5 := Lib.hid (HS4.out.below hb5)
  have HB5 := Lib.hid (bup HB4.out hb5)
  clear hb5 HS4 HFS HGT HTM
  go_wp2_with fail
  go_loop [14, 15, 66] (fun sv mv iv => ∃ k : Nat, k ≤ 60 ∧ iv = .int .i64 k ∧ sv = .int .i64 (sumF id (Lf.take k)) ∧ mv = .int .i64 ((Lf.take k).foldl max 0)) (fun _ _ iv => 60 - (intOf iv).toNat)
  case atStart => exact ⟨0, by omega, rfl, rfl, rfl⟩
  case round =>
    obtain ⟨k, hk, rfl, rfl, rfl⟩ := hrel
    by_cases hlt : k < 60
    · obtain ⟨b, off, x, he, -, hbl, hxk, hck⟩ := HS5.out.int hlt
      subst he
      have hsn := mx_snoc (a := 0) hxk
      have hsm := sumF_take (f := id) hxk
      have hpt := sumF_part (f := id) (L := Lf) k fun x hx => (HBD.out x hx).1
      have hxb := HBD.out x (List.mem_of_getElem? hxk)
      rw [HTOT.out] at hpt
      obtain ⟨T, hT⟩ : ∃ T, (Lf.take k).foldl max 0 = T := ⟨_, rfl⟩
      obtain ⟨U, hU⟩ : ∃ T, sumF id (Lf.take k) = T := ⟨_, rfl⟩
      rw [hT] at hsn ⊢
      rw [hU] at hsm hpt ⊢
      have HSN := Lib.hid hsn
      have HSM := Lib.hid (show sumF id (Lf.take (k + 1)) = U + x from hsm)
      clear hxk hsn hsm hT hU
      go_wp2
      go_round
      case rel => exact ⟨k + 1, by omega, by go_num, by rw [HSM.out], by rw [HSN.out]⟩
      case measure => simp [intOf]; omega
    · obtain rfl : k = 60 := by omega
      have ht : Lf.take 60 = Lf := List.take_of_length_le (by rw [HLEN.out]; omega)
      rw [ht, HTOT.out, HMX.out]
      obtain ⟨b, off, m, he, -, hbl, hxk, hck⟩ := HS5.out.int hy60
      have hm := HYL.out
      rw [hxk] at hm
      have hmm : m = mxL Lf := by simpa using hm
      rw [← hmm]
      subst he
      clear ht hm hxk hmm
      go_wp2_with fail
      refine (HDB.out _ (HR2.out.below HB5.out)).mono ?_
      rintro e w6 ⟨rfl, hb6⟩
      replace y0 := keepB hb6 y0
      replace y1 := keepB hb6 y1
      replace y2 := keepB hb6 y2
      replace hck := keepB hb6 hck
      have HB6 := Lib.hid (bup HB5.out hb6)
      have hsz6 := hb6.size
      clear hb6 HS5
      go_wp2_with fail
      have HR6 := Lib.hid (HR2.out.below HB6.out)
      clear hck
      go_loopw [18, 19, 110] (fun nv fv iv wr => ∃ k : Nat, k ≤ n1 ∧ iv = .int .i64 k ∧ nv = .int .i64 (nearF R day (R.hs.take k)) ∧ fv = .int .i64 (farF R day (R.hs.take k)) ∧ Below w6.heap.size w6 wr) (fun _ _ iv _ => n1 - (intOf iv).toNat)
      case atStart => exact ⟨0, by omega, rfl, rfl, rfl, brefl⟩
      case round =>
        obtain ⟨k, hk, rfl, rfl, rfl, hbr⟩ := hrel
        have hnb := near_bd R day k
        have hfb := far_bdk HOK.out hd0 k
        by_cases hlt : k < n1
        · obtain ⟨b, off, xs, xh, xa, rfl, -, hbl, hxk, q0, q1, q2⟩ := (HR6.out.H.below hbr).hold hlt
          have hns := near_snoc (R := R) (day := day) hxk
          have hfs := far_snoc (R := R) (day := day) hxk
          have hsc := HOK.out.rh.sec _ (List.mem_of_getElem? hxk)
          have r0 := keepB hbr y0
          have r1 := keepB hbr y1
          have r2 := keepB hbr y2
          have hzr : w2.heap.size < wr.heap.size := World.block_lt_of_cell? _ _ r0
          obtain ⟨fb, hfind⟩ := ffind_of _ _ _ _ R ⟨xs, xh, xa⟩ (wr.alloc (Obj.cells #[Value.int IntKind.i64 xs, Value.int IntKind.i64 xh, Value.int IntKind.i64 xa] 93)) ((HR6.out.below hbr).below (bal brefl _)) hls
          obtain ⟨sx, hsx⟩ : ∃ s, secOf R ⟨xs, xh, xa⟩ = s := ⟨_, rfl⟩
          rw [hsx] at hfind hns hfs hsc
          obtain ⟨id, un, is, ma, ra, ev, ix⟩ := sx
          have hm0 := hsc.ma0
          have hi0 := hsc.is0
          have hm2 := hsc.ma2
          simp only at hm0 hi0 hm2
          obtain ⟨N, hN⟩ : ∃ z, nearF R day (R.hs.take k) = z := ⟨_, rfl⟩
          obtain ⟨F, hF⟩ : ∃ z, farF R day (R.hs.take k) = z := ⟨_, rfl⟩
          rw [hN] at hnb hns ⊢
          rw [hF] at hfb hfs ⊢
          have HNS := Lib.hid hns
          have HFS := Lib.hid hfs
          have HF := Lib.hid hfind
          have HBR := Lib.hid hbr
          clear hns hfs hsc hfind hbr hxk hsx hN hF
          go_wp2_with fail
          refine HF.out.mono ?_
          rintro e w7 ⟨rfl, hb7⟩
          dsimp only [aggSec]
          have HB7 := Lib.hid (bup (bal HBR.out _) hb7)
          clear hb7 HF
          by_cases hd : day < ma
          · have HN2 := HNS.out
            have HF2 := HFS.out
            rw [if_pos hd] at HN2 HF2
            have HN3 := Lib.hid HN2
            have HF3 := Lib.hid HF2
            clear HN2 HF2 HNS HFS
            go_wp2_with fail
            go_region
            all_goals (go_wp2_with fail)
            all_goals go_roundw
            all_goals first
              | exact ⟨k + 1, by omega, by go_num, by rw [HN3.out], by rw [HF3.out], bal HB7.out _⟩
              | exact ⟨k + 1, by omega, by go_num, by rw [HN3.out], by rw [HF3.out], bdr (bal HB7.out _)⟩
              | (simp [intOf]; omega)
          · have HN2 := HNS.out
            have HF2 := HFS.out
            rw [if_neg hd] at HN2 HF2
            have HN3 := Lib.hid HN2
            have HF3 := Lib.hid HF2
            clear HN2 HF2 HNS HFS
            go_wp2_with fail
            go_roundw
            all_goals first
              | exact ⟨k + 1, by omega, by go_num, by rw [HN3.out], by rw [HF3.out], bal HB7.out _⟩
              | (simp [intOf]; omega)
        · obtain rfl : k = n1 := by omega
          have ht : R.hs.take k = R.hs := List.take_of_length_le (Nat.le_of_eq HL1.out)
          rw [ht] at hnb hfb ⊢
          have hge := HNG.out
          have hle := HNL.out
          obtain ⟨N, hN⟩ : ∃ z, nearF R day R.hs = z := ⟨_, rfl⟩
          obtain ⟨F, hF⟩ : ∃ z, farF R day R.hs = z := ⟨_, rfl⟩
          rw [hN] at hnb hge ⊢
          rw [hF] at hfb hle ⊢
          have m1 := mul_bd hnb.1 hnb.2 hdb2.1 hdb2.2
          have m2 := mul_bd hfb.1 hfb.2 hdb2.1 hdb2.2
          have hw1 : IntKind.i64.wrap (N * den) = N * den := IntWalk.i64_in _ (by omega)
          have hw2 : IntKind.i64.wrap (F * den) = F * den := IntWalk.i64_in _ (by omega)
          have HBE := Lib.hid (bup HB6.out hbr)
          clear hbr ht
          by_cases hdz : den = 0
          · have hnz : num = 0 := by rw [hdz] at hge hle; simp at hge hle; omega
            subst hdz hnz
            go_wp2_with (go_at_call 53; refine (sane39_any _).mono ?_; rintro e w9 ⟨rfl, hb9⟩)
            go_ret
            exact ⟨rfl, HB2'.out.trans ((bup HBE.out hb9).mono HB2'.out.size)⟩
          · have hd1 : (den == 0) = false := by simpa using hdz
            have hd2 : (den != 0) = true := by simpa using hdz
            have d1 : decide (N * den ≤ num) = true := decide_eq_true hge
            have d2 : decide (num ≤ F * den) = true := decide_eq_true hle
            go_wp2_with (go_at_call 53; refine (sane39_any _).mono ?_; rintro e w9 ⟨rfl, hb9⟩)
            go_ret
            exact ⟨rfl, HB2'.out.trans ((bup HBE.out hb9).mono HB2'.out.size)⟩
end Go.Proofs.Ytmhglabcnimegaa
