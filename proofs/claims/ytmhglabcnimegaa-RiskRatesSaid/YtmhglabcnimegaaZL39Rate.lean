/- RiskRates: the walk. -/
import Derived.Test.YtmhglabcnimegaaZL39R
import Derived.Test.YtmhglabcnimegaaZL39Base
namespace Go.Proofs.Ytmhglabcnimegaa
open Go.RowKit
set_option linter.unusedVariables false
set_option linter.unusedSimpArgs false
set_option maxHeartbeats 16000000 in
set_option maxRecDepth 100000 in
theorem rrates_walk (k0 : Option Addr) (len0 cap0 : Nat) (n0' : Int) (hn0 : 0 ≤ n0' ∧ n0' ≤ 65535) (w : World) (h1 : len0 ≤ cap0) (h2 : cap0 ≤ maxLen) (hz : len0 = 0 ∨ ∃ b off, k0 = some ⟨b, off, none⟩ ∧ ∀ i, i < len0 → ∃ z : Int, w.cell? ⟨b, off + i, none⟩ = some (.int .i64 z)) :
    Calls Try.prog 9 #[.slice k0 len0 cap0, .int .u16 n0'] w fun e w' => e = .returned (.bool true) ∧ Below w.heap.size w w' := by
  go_enter Try.func9, Try.ntmps9
  go_wp2_with fail
  refine (new_any k0 len0 cap0 w h1 h2 hz).mono ?_
  rintro e w1 ⟨sb, rfl, hsb, hS1, hB1⟩
  clear hz
  go_wp2_with fail
  refine (sreg_any sb 8 w1 hS1 (by omega)).mono ?_
  rintro e w2 ⟨vs, vh, vm, R, day, rfl, hlike, hml, hdl, hR, hS2, hG2⟩
  have hlt := srcOk_lt hS1
  have hB2 : Below w.heap.size w w2 := hB1.trans (below_of_grown hG2 hsb hB1.size)
  have z2 := hG2.size
  obtain ⟨a0, n0, c0, rfl, -, -, -⟩ := hR.S.shape
  obtain ⟨a1, n1, c1, rfl, -, -, -⟩ := hR.H.shape
  obtain ⟨a2, n2, c2, rfl, -, -, -⟩ := hR.M.shape
  have hls : R.secs.length ≤ 1000000 := by have := hlike.ok.ls; omega
  have hlh : R.hs.length ≤ 1000000 := by have := hlike.ok.hl; omega
  have hlm : R.ms.length ≤ 1000000 := by omega
  have HOK := Lib.hid hlike.ok
  go_wp2_with fail
  obtain ⟨W2, hW2⟩ : ∃ W, W = w2.alloc (.cells #[.slice a0 n0 c0, .slice a1 n1 c1, .slice a2 n2 c2] 29 (0, 0)) := ⟨_, rfl⟩
  have hR2 : RgIn (fun b => w1.heap.size ≤ b) W2 (.slice a0 n0 c0) (.slice a1 n1 c1) (.slice a2 n2 c2) R := by rw [hW2]; exact (hR.mono (fun b hb hl => by omega)).below (bal brefl _)
  have hx2 : W2.heap[w2.heap.size]? = some (.cells #[.slice a0 n0 c0, .slice a1 n1 c1, .slice a2 n2 c2] 29 (0, 0)) := by rw [hW2]; exact heap_alloc_new w2 _
  have hS2' : SrcOk W2 sb := by rw [hW2]; exact srcOk_alloc hS2 _
  have hB2' : Below w.heap.size w W2 := by rw [hW2]; exact hB2.alloc hB2.size _
  rw [← hW2]
  refine (srates_any sb W2 hS2').mono ?_
  rintro e w3 ⟨v3, L, rfl, hown, hL, hok, hS3, hG3⟩
  obtain ⟨f3, c3, rfl⟩ := own_slice0 hown
  have hx3 : w3.heap[w2.heap.size]? = some (.cells #[.slice a0 n0 c0, .slice a1 n1 c1, .slice a2 n2 c2] 29 (0, 0)) := (hG3.block _ (Array.getElem?_eq_some_iff.1 hx2).1 (by simp; omega)).trans hx2
  have hR3 : RgIn (fun _ => True) w3 (.slice a0 n0 c0) (.slice a1 n1 c1) (.slice a2 n2 c2) R := (hR2.grown hG3 (fun b hb => by omega)).any
  have hB3 : Below w.heap.size w w3 := hB2'.trans (below_of_grown hG3 hsb hB2'.size)
  have hl3 : Sl 1 encI (fun _ => True) w3 (.slice f3 L.length c3) L := Sl.own encI_len hown rfl (fun _ _ => trivial)
  have hp := rates_path hok (by omega) (by omega)
  have HP := Lib.hid hp
  have HC := Lib.hid (fun W (hW : Below w3.heap.size w3 W) b => cost_any (fun _ => True) (fun _ => True) _ _ _ _ R 0 b L W (hR3.below hW) hls hlh hlm (hl3.below hW) (by omega))
  have HSH := Lib.hid (fun W (hW : Below w3.heap.size w3 W) b => shifted_any (fun _ => True) _ L b W (hl3.below hW) (by omega))
  have y0 := cell_heap (i := 0) hx3 rfl
  have y1 := cell_heap (i := 1) hx3 rfl
  have y2 := cell_heap (i := 2) hx3 rfl
  have HB3 := Lib.hid hB3
  have HLL := Lib.hid hL
  clear hR hS2 hG2 hB2 hB1 hS1 hW2 hR2 hx2 hS2' hB2' hlike hown hok hS3 hG3 hx3 hR3 hB3 hl3 hL hp hml hdl
  obtain ⟨n, hn⟩ : ∃ n, n0'.tmod 20001 = n := ⟨_, rfl⟩
  have hnb : 0 ≤ n ∧ n ≤ 20000 := by rw [← hn, Int.tmod_eq_emod_of_nonneg hn0.1]; omega
  go_wp2_with fail
  try rw [hn]
  clear hn
  refine (HC.out _ brefl n).mono ?_
  rw [csE_ok HOK.out HP.out (by omega)]
  have hA := csV_ge HOK.out HP.out hnb.1
  generalize csV R 0 L n = A at hA
  rintro e w4 ⟨rfl, hb4⟩
  replace y0 := keepB hb4 y0
  replace y1 := keepB hb4 y1
  replace y2 := keepB hb4 y2
  have HB4 := Lib.hid hb4
  clear hb4
  go_wp2_with fail
  refine (HC.out _ HB4.out 0).mono ?_
  rw [csE_ok HOK.out HP.out (by omega), csV_zero HOK.out HP.out]
  rintro e w5 ⟨rfl, hb5⟩
  replace y0 := keepB hb5 y0
  replace y1 := keepB hb5 y1
  replace y2 := keepB hb5 y2
  have HB5 := Lib.hid (bup HB4.out hb5)
  clear hb5 HB4
  have hng : IntKind.i64.wrap (-n) = -n := IntWalk.i64_in _ (by omega)
  go_wp2_with fail
  try rw [hng]
  refine (HC.out _ HB5.out (-n)).mono ?_
  rw [csE_ok HOK.out HP.out (by omega)]
  have hC := csV_le HOK.out HP.out (b := -n) (by omega)
  generalize csV R 0 L (-n) = C at hC
  rintro e w6 ⟨rfl, hb6⟩
  have HB6 := Lib.hid (bup HB5.out hb6)
  clear hb6 HB5 HC
  go_wp2_with fail
  refine (HSH.out _ HB6.out n).mono ?_
  rintro e w7 ⟨v7, rfl, hown7, hb7⟩
  obtain ⟨f7, c7, rfl⟩ := own_slice0 hown7
  have hp7 := path_any (fun _ => True) _ (shL n L) w7 (Sl.own encI_len hown7 rfl (fun _ _ => trivial)) (by rw [shL_len]; have := HLL.out; omega)
  rw [pathB_sh HP.out] at hp7
  have HP7 := Lib.hid hp7
  have HB7 := Lib.hid (bup HB6.out hb7)
  clear hown7 hb7 hp7 HB6
  go_wp2_with fail
  refine HP7.out.mono ?_
  rintro e w7' ⟨rfl, rfl⟩
  clear HP7
  go_wp2_with fail
  try rw [hng]
  refine (HSH.out _ HB7.out (-n)).mono ?_
  rintro e w8 ⟨v8, rfl, hown8, hb8⟩
  obtain ⟨f8, c8, rfl⟩ := own_slice0 hown8
  have hp8 := path_any (fun _ => True) _ (shL (-n) L) w8 (Sl.own encI_len hown8 rfl (fun _ _ => trivial)) (by rw [shL_len]; have := HLL.out; omega)
  rw [pathB_sh HP.out] at hp8
  have HP8 := Lib.hid hp8
  have HB8 := Lib.hid (bup HB7.out hb8)
  clear hown8 hb8 hp8 HB7
  go_wp2_with fail
  refine HP8.out.mono ?_
  rintro e w8' ⟨rfl, rfl⟩
  clear HP8
  go_wp2_with fail
  refine (sane39_any w8).mono ?_
  rintro e w9 ⟨rfl, hb9⟩
  have HB9 := Lib.hid (bup HB8.out hb9)
  go_wp2
  go_ret
  exact ⟨rfl, HB3.out.trans (HB9.out.mono HB3.out.size)⟩
end Go.Proofs.Ytmhglabcnimegaa
