/- CouponFlows. Printed by wip/gen/l34fl.py. -/
import Derived.Test.YtpoidaenkjjdfaaZFlP
import Derived.Test.YtpoidaenkjjdfaaZL34Base
import Derived.Test.YtpoidaenkjjdfaaZSrcReg
import Derived.Test.YtpoidaenkjjdfaaZRefE
namespace Go.Proofs.Ytpoidaenkjjdfaa
open Go.RowKit
set_option linter.unusedVariables false
set_option linter.unusedSimpArgs false
theorem secs_cnt : ∀ {p : Int} {L : List Sec}, secsB p L = true → (∀ s ∈ L, s.id ≤ 3) → p ≤ 3 → (L.length : Int) ≤ 3 - p
  | p, [], _, _, h => by simp; omega
  | p, s :: L, hb, hi, h => by
    rw [secsB_cons, Bool.and_eq_true, Bool.and_eq_true] at hb
    have h1 := hb.2.1
    rw [decide_eq_true_eq] at h1
    have h2 := hi s (List.mem_cons_self ..)
    have := secs_cnt hb.2.2 (fun t ht => hi t (List.mem_cons_of_mem _ ht)) h2
    simp only [List.length_cons]
    omega
theorem duL_like {x : Sec} (h : SecLike x.un x.is x.ma x.ra x.ev) : (duL x).length ≤ 5 := by
  unfold duL
  split
  · simp
  · rename_i h0
    unfold daysL
    rw [List.length_map, List.length_range]
    unfold dayN
    split
    · obtain ⟨k, k1, k5, hm⟩ := h.hma
      have hev := h.hev
      have e1 : max x.ev 1 = x.ev := by simp at hev; omega
      rw [e1] at hm
      have : (x.ma - x.is) / (30 * x.ev) = k := by
        have : x.ma - x.is = 30 * x.ev * k := by omega
        rw [this]
        exact Int.mul_ediv_cancel_left k (by simp at hev; omega)
      rw [this]; omega
    · omega
theorem like_flows {R : Reg} {day : Int} (h : RegLike R day) : (flR R 0 35990).length ≤ 400 := by
  have h1 := secs_cnt h.ok.secs (fun s hs => (h.secs s hs).1.2) (by omega)
  have key : ∀ L : List Sec, (∀ s ∈ L, SecLike s.un s.is s.ma s.ra s.ev) → (L.flatMap (flS R 0 35990)).length ≤ 10 * L.length := by
    intro L
    induction L with
    | nil => intro _; simp
    | cons x L ih =>
      intro hL
      have a := ih fun s hs => hL s (List.mem_cons_of_mem _ hs)
      have b := duL_like (hL x (List.mem_cons_self ..))
      have c := flat_len (flD R x 0 35990) (flD_len R x 0 35990) (duL x)
      have d : (flS R 0 35990 x).length ≤ 10 := by unfold flS; omega
      simp only [List.flatMap_cons, List.length_append, List.length_cons]
      omega
  have := key R.secs fun s hs => (h.secs s hs).2
  unfold flR; omega
theorem gS_bd {α : Type} {f : α → Int} {B : Int} : ∀ {L : List α}, (∀ x ∈ L, -B ≤ f x ∧ f x ≤ 0) → -(B * L.length) ≤ gS f L ∧ gS f L ≤ 0
  | [], _ => by simp [gS]
  | x :: L, h => by
    have h1 := gS_bd (L := L) fun y hy => h y (List.mem_cons_of_mem _ hy)
    have h2 := h x (List.mem_cons_self ..)
    simp only [gS, List.length_cons]
    rw [show ((L.length + 1 : Nat) : Int) = (L.length : Int) + 1 by omega, Int.mul_add]
    omega
theorem gS_bdU {α : Type} {f : α → Int} {B : Int} : ∀ {L : List α}, (∀ x ∈ L, 0 ≤ f x ∧ f x ≤ B) → 0 ≤ gS f L ∧ gS f L ≤ B * L.length
  | [], _ => by simp [gS]
  | x :: L, h => by
    have h1 := gS_bdU (L := L) fun y hy => h y (List.mem_cons_of_mem _ hy)
    have h2 := h x (List.mem_cons_self ..)
    simp only [gS, List.length_cons]
    rw [show ((L.length + 1 : Nat) : Int) = (L.length : Int) + 1 by omega, Int.mul_add]
    omega
theorem flR_bd {R : Reg} (h : RgOk R) (a b : Int) : ∀ f ∈ flR R a b, -1600000000000000 ≤ f.a := by
  intro f hf
  have hl := h.hl
  unfold flR at hf
  obtain ⟨x, -, hf⟩ := List.mem_flatMap.1 hf
  unfold flS at hf
  obtain ⟨d, -, hf⟩ := List.mem_flatMap.1 hf
  have b1 := sm_bd x d (holdBd_of h)
  unfold flD at hf
  split at hf
  · rcases List.mem_append.1 hf with hf | hf
    all_goals have := flF_ok _ _ _ f hf; omega
  · simp at hf
theorem days_600 {x : Sec} (h : SecOk x.id x.un x.is x.ma x.ra x.ev) : (daysL x.id x.un x.is x.ma x.ra x.ev).length ≤ 600 := by
  unfold daysL
  rw [List.length_map, List.length_range]
  unfold dayN
  have m1 := h.ma1
  have m0 := h.ma0
  split
  · rename_i hb
    rw [Bool.and_eq_true] at hb
    have hne : x.ev ≠ 0 := by simpa using hb.2
    rcases h.ev with ⟨h1, -, -⟩ | ⟨h1, h2⟩ | ⟨h1, h2⟩ | ⟨h1, h2⟩ | ⟨h1, h2⟩
    · exact absurd h1 hne
    all_goals rw [h1]; omega
  · omega
theorem wantX_bd {x : Sec} (h : SecOk x.id x.un x.is x.ma x.ra x.ev) {y : Hold} (hy : HoldBd y) : (0 ≤ cpN x.id x.un x.is x.ma x.ra x.ev y.a * (daysL x.id x.un x.is x.ma x.ra x.ev).length ∧ cpN x.id x.un x.is x.ma x.ra x.ev y.a * (daysL x.id x.un x.is x.ma x.ra x.ev).length ≤ 600000000000000) ∧ 0 ≤ wantX x y ∧ wantX x y ≤ 601000000000000 := by
  obtain ⟨c0, c1⟩ := cpN_bd x.id x.un x.is x.ma x.ra x.ev y.a
  have hd := days_600 h
  have hm := mul_bd c0 c1 (show (0 : Int) ≤ ((daysL x.id x.un x.is x.ma x.ra x.ev).length : Int) by omega) (show ((daysL x.id x.un x.is x.ma x.ra x.ev).length : Int) ≤ 600 by omega)
  unfold HoldBd at hy
  unfold wantX
  omega
set_option maxHeartbeats 16000000 in
set_option maxRecDepth 100000 in
theorem cflows_walk (a0 : Option Addr) (len0 cap0 : Nat) (w : World) (h1 : len0 ≤ cap0) (h2 : cap0 ≤ maxLen) (hz : len0 = 0 ∨ ∃ b off, a0 = some ⟨b, off, none⟩ ∧ ∀ i, i < len0 → ∃ z : Int, w.cell? ⟨b, off + i, none⟩ = some (.int .i64 z)) :
    Calls Try.prog 6 #[.slice a0 len0 cap0] w fun e w' => e = .returned (.bool true) ∧ Below w.heap.size w w' := by
  have HNW := Lib.hid (new_any a0 len0 cap0 w h1 h2 hz)
  clear hz
  go_enter Try.func6, Try.ntmps6
  go_wp2_with fail
  refine HNW.out.mono ?_
  rintro e w2 ⟨sb, rfl, hsb, hS2, hB2⟩
  have hlt := srcOk_lt hS2
  have HB2 := Lib.hid hB2
  have z2 := hB2.size
  clear hB2 HNW
  go_wp2_with fail
  refine (sreg_any sb 8 w2 hS2 (by omega)).mono ?_
  rintro e w3 ⟨us, uh, um, R, now, rfl, hlike, hml, hdl, hR, hS3, hG3⟩
  have z3 := hG3.size
  obtain ⟨b0, m0, d0, rfl, -, -, -⟩ := hR.S.shape
  obtain ⟨b1, m1, d1, rfl, hm1, -, -⟩ := hR.H.shape
  obtain ⟨b2, m2, d2, rfl, -, -, -⟩ := hR.M.shape
  have HR3 := Lib.hid hR.any
  have HOK := Lib.hid hlike.ok
  have HFL := Lib.hid (like_flows hlike)
  have HM1 := Lib.hid hm1
  have hm8 : m1 ≤ 800 := by have := hlike.ok.hl; omega
  have HB3 := Lib.hid (HB2.out.trans (below_of_grown hG3 (by omega) z2))
  have hE : unE R 0 35990 = 0 := by unfold unE; rw [chkE_iff.2 hlike.ok, if_pos rfl, if_pos ⟨rfl, rfl⟩, if_neg (by have := like_flows hlike; omega)]
  have hL : unL R 0 35990 = srt (ltz cfF) (flR R 0 35990) := by unfold unL; rw [hE, if_pos rfl]
  have HL := Lib.hid hL
  have KU := until_any (fun _ => True) _ _ _ R 0 35990 (w3.alloc (.cells #[.slice b0 m0 d0, .slice b1 m1 d1, .slice b2 m2 d2] 27 (0, 0))) (HR3.out.below (bal brefl _)) (by have := hlike.ok.ls; omega) (by omega) (by have := hlike.ok.lm; omega)
  rw [hE] at KU
  have KU := Lib.hid KU
  have hls := hlike.ok.ls
  clear hR hlike hG3 hS2 hS3 HB2 hm1 hE hL hml hdl
  go_wp2_with fail
  refine KU.out.mono ?_
  rintro e w4 ⟨v4, rfl, hown4, hb4⟩
  obtain ⟨LF, hLF⟩ : ∃ L, unL R 0 35990 = L := ⟨_, rfl⟩
  rw [hLF] at hown4 HL
  have hS4 := Sl.own (P := fun _ => True) encFlow_len hown4 rfl (fun _ _ => trivial)
  obtain ⟨fo, nf, fc, rfl, hnf, -, -⟩ := hS4.shape
  have HS4 := Lib.hid hS4
  have HNF := Lib.hid hnf
  have hnf4 : nf ≤ 400 := by have := HFL.out; rw [← hnf, HL.out, srt_length]; exact this
  have HX4 := Lib.hid (heap_up hb4 (heap_alloc_new w3 _))
  have HB4 := Lib.hid (bup (bal HB3.out _) hb4)
  have HR4 := Lib.hid ((HR3.out.below (bal brefl _)).below hb4)
  have z4 := hb4.size
  simp only [World.size_alloc] at z4
  obtain ⟨XB, hXB⟩ : ∃ b, w3.heap.size = b := ⟨_, rfl⟩
  rw [hXB] at HX4 z4 ⊢
  have hX := HX4.out
  have cx0 := cell_heap (i := 0) (hX) rfl; have cx1 := cell_heap (i := 1) (hX) rfl; have cx2 := cell_heap (i := 2) (hX) rfl
  clear hown4 hb4 hS4 hnf hLF KU HB3 HR3 hX
  go_wp2
  go_loopw [8, 35] (fun sv iv wr => ∃ k : Nat, k ≤ m1 ∧ iv = .int .i64 k ∧ sv = .int .i64 (gS (wantH R) (R.hs.take k)) ∧ Below w4.heap.size w4 wr) (fun _ iv _ => m1 - (intOf iv).toNat)
  case atStart => exact ⟨0, by omega, rfl, rfl, brefl⟩
  case round =>
    clear cx0 cx1 cx2
    obtain ⟨k, hk, rfl, rfl, hbr⟩ := hrel
    have zr := hbr.size
    have HBR := Lib.hid hbr
    have HXR := Lib.hid (heap_up hbr HX4.out)
    have hb8 := gS_bdU (f := wantH R) (B := 601000000000000) (L := R.hs.take k) (fun y hy => by
      have hy' := List.mem_of_mem_take hy
      obtain ⟨x, hx⟩ := at_find HOK.out 36000 y (by rw [HOK.out.last]; exact hy')
      unfold wantH
      rw [hx]
      exact (wantX_bd (secB_iff.1 (HOK.out.sec x (findS_mem hx).1)) (holdBd_of HOK.out y hy')).2)
    have htk : (R.hs.take k).length ≤ k := by rw [List.length_take]; omega
    by_cases hlt2 : k < m1
    · obtain ⟨b', off', s, h, a, rfl, -, hbl, hy, k0, k1, k2⟩ := (HR4.out.H.below hbr).hold hlt2
      have hym := List.mem_of_getElem? hy
      obtain ⟨x, hx⟩ := at_find HOK.out 36000 _ (by rw [HOK.out.last]; exact hym)
      simp only at hx
      have hxs := secB_iff.1 (HOK.out.sec x (findS_mem hx).1)
      have hyb := holdBd_of HOK.out _ hym
      have hwb := wantX_bd hxs hyb
      have hd6 := days_600 hxs
      have hsn : gS (wantH R) (R.hs.take (k + 1)) = gS (wantH R) (R.hs.take k) + wantX x ⟨s, h, a⟩ := by rw [take_snocZ hy, gS_append]; simp only [gS, wantH, hx]; omega
      obtain ⟨S, hSS⟩ : ∃ S, gS (wantH R) (R.hs.take k) = S := ⟨_, rfl⟩
      rw [hSS] at hb8 hsn ⊢
      have hs8 : S ≤ 500000000000000000 := by omega
      have hs0 := hb8.1
      obtain ⟨id, un, is, ma, ra, ev, ix⟩ := x
      simp only at hwb hd6
      obtain ⟨C, hC⟩ : ∃ C, cpN id un is ma ra ev a = C := ⟨_, rfl⟩
      have KC := fun U => coupon_any id un is ma ra ev ix a U
      have hcc : ccE id un is ma ra ev a = 0 := ccE_of hxs hyb.1 hyb.2
      have hwx : wantX ⟨id, un, is, ma, ra, ev, ix⟩ ⟨s, h, a⟩ = C * (daysL id un is ma ra ev).length + a := by unfold wantX; simp only [hC]
      simp only [hC, hcc] at KC
      simp only [hC] at hwb
      have KF := Lib.hid (fun U (hU : Below w4.heap.size w4 U) => ffind_yes (fun _ => True) _ _ _ R s id un is ma ra ev ix U (HR4.out.below hU) (by omega) hx)
      have KC := Lib.hid KC
      have KD := Lib.hid (fun U => days_any id un is ma ra ev ix U)
      have HSN := Lib.hid hsn
      have HWX := Lib.hid hwx
      have HWB := Lib.hid hwb
      have HD6 := Lib.hid hd6
      have ha0 := hyb.1
      have ha1 := hyb.2
      have hc0 : 0 ≤ C ∧ C ≤ 1000000000000 := by rw [← hC]; exact cpN_bd ..
      have hX := HXR.out
      have cx0 := cell_heap (i := 0) (hX) rfl; have cx1 := cell_heap (i := 1) (hX) rfl; have cx2 := cell_heap (i := 2) (hX) rfl
      have hlx : XB < wr.heap.size := (Array.getElem?_eq_some_iff.1 hX).1
      clear hsn hwx hwb hd6 hxs hyb hx hym hy hC hcc hSS hb8 htk hX hbr
      simp only at ha0 ha1
      go_wp2_with fail
      refine (KF.out _ (bal HBR.out _)).mono ?_
      rintro e w5 ⟨rfl, hb5⟩
      have z5 := hb5.size
      simp only [World.size_alloc] at z5
      have HH5 := Lib.hid (heap_up hb5 (heap_alloc_new wr _))
      have HB5 := Lib.hid (bup (bal HBR.out _) hb5)
      obtain ⟨HB, hHB⟩ : ∃ b, wr.heap.size = b := ⟨_, rfl⟩
      rw [hHB] at HH5 z5 ⊢
      clear hb5 hHB cx0 cx1 cx2 k0 k1 k2
      go_upto_region 11 with fail
      obtain ⟨W5, hW5⟩ : ∃ X, w5.alloc (.cells #[.int .i64 id, .int .i64 un, .int .i64 is, .int .i64 ma, .int .i64 ra, .int .i64 ev, .bool ix] 29 (0, 0)) = X := ⟨_, rfl⟩
      have hs5 : W5.heap[w5.heap.size]? = some (.cells #[.int .i64 id, .int .i64 un, .int .i64 is, .int .i64 ma, .int .i64 ra, .int .i64 ev, .bool ix] 29 (0, 0)) := by rw [← hW5]; exact heap_alloc_new w5 _
      have hb5 : Below w5.heap.size w5 W5 := by rw [← hW5]; exact bal brefl _
      rw [hW5]
      clear hW5
      obtain ⟨SB, hSB⟩ : ∃ b, w5.heap.size = b := ⟨_, rfl⟩
      rw [hSB] at hs5 ⊢
      have HS5 := Lib.hid hs5
      have hh5 := heap_up hb5 HH5.out
      have HH6 := Lib.hid hh5
      have HB6 := Lib.hid (bup HB5.out hb5)
      have cs0 := cell_heap (i := 0) (hs5) rfl; have cs1 := cell_heap (i := 1) (hs5) rfl; have cs2 := cell_heap (i := 2) (hs5) rfl; have cs3 := cell_heap (i := 3) (hs5) rfl; have cs4 := cell_heap (i := 4) (hs5) rfl; have cs5 := cell_heap (i := 5) (hs5) rfl; have cs6 := cell_heap (i := 6) (hs5) rfl
      have ch0 := cell_heap (i := 0) (hh5) rfl; have ch1 := cell_heap (i := 1) (hh5) rfl; have ch2 := cell_heap (i := 2) (hh5) rfl
      clear hs5 hb5 hh5 hSB HH5 HB5
      go_wp2_with fail
      refine (KC.out _).mono ?_
      rintro e w6 ⟨rfl, hb6⟩
      have hS6 := heap_up hb6 HS5.out
      have hH6 := heap_up hb6 HH6.out
      have HB7 := Lib.hid (bup HB6.out hb6)
      clear cs0 cs1 cs2 cs3 cs4 cs5 cs6 ch0 ch1 ch2 hb6
      have cs0 := cell_heap (i := 0) (hS6) rfl; have cs1 := cell_heap (i := 1) (hS6) rfl; have cs2 := cell_heap (i := 2) (hS6) rfl; have cs3 := cell_heap (i := 3) (hS6) rfl; have cs4 := cell_heap (i := 4) (hS6) rfl; have cs5 := cell_heap (i := 5) (hS6) rfl; have cs6 := cell_heap (i := 6) (hS6) rfl
      have ch0 := cell_heap (i := 0) (hH6) rfl; have ch1 := cell_heap (i := 1) (hH6) rfl; have ch2 := cell_heap (i := 2) (hH6) rfl
      clear hS6 hH6
      go_upto_region 12 with fail
      go_region_held3 (fun w' => w'.cell? ⟨SB, 0, none⟩ = some (.int .i64 id) ∧ w'.cell? ⟨SB, 1, none⟩ = some (.int .i64 un) ∧ w'.cell? ⟨SB, 2, none⟩ = some (.int .i64 is) ∧ w'.cell? ⟨SB, 3, none⟩ = some (.int .i64 ma) ∧ w'.cell? ⟨SB, 4, none⟩ = some (.int .i64 ra) ∧ w'.cell? ⟨SB, 5, none⟩ = some (.int .i64 ev) ∧ w'.cell? ⟨SB, 6, none⟩ = some (.bool ix) ∧ w'.cell? ⟨HB, 0, none⟩ = some (.int .i64 s) ∧ w'.cell? ⟨HB, 1, none⟩ = some (.int .i64 h) ∧ w'.cell? ⟨HB, 2, none⟩ = some (.int .i64 a)) (first | exact ⟨cs0, cs1, cs2, cs3, cs4, cs5, cs6, ch0, ch1, ch2⟩ | go_keep) ((go_at_call 67; refine (KD.out _).mono ?_; intro e w7 hd; obtain ⟨v7, rfl, hS7, hb7⟩ := daysMade_sl id un is ma ra ev ix hd; obtain ⟨ho, n, hc, rfl, hn, -, -⟩ := hS7.shape; have HB8 := Lib.hid (show Below w4.heap.size w4 w7 from bup (bdr HB7.out) hb7); have HN := Lib.hid hn; have cs0 := keepB hb7 (show w6.drew.cell? _ = _ from cs0); have cs1 := keepB hb7 (show w6.drew.cell? _ = _ from cs1); have cs2 := keepB hb7 (show w6.drew.cell? _ = _ from cs2); have cs3 := keepB hb7 (show w6.drew.cell? _ = _ from cs3); have cs4 := keepB hb7 (show w6.drew.cell? _ = _ from cs4); have cs5 := keepB hb7 (show w6.drew.cell? _ = _ from cs5); have cs6 := keepB hb7 (show w6.drew.cell? _ = _ from cs6); have ch0 := keepB hb7 (show w6.drew.cell? _ = _ from ch0); have ch1 := keepB hb7 (show w6.drew.cell? _ = _ from ch1); have ch2 := keepB hb7 (show w6.drew.cell? _ = _ from ch2); have hn6 : n ≤ 600 := (by have := HD6.out; omega); have hcm : 0 ≤ C * (n : Int) ∧ C * (n : Int) ≤ 600000000000000 := (by have := HWB.out.1; rw [hn] at this; exact this); have hw1 : IntKind.i64.wrap (C * (n : Int)) = C * (n : Int) := (by rw [IntKind.wrap_i64]; omega); have hw2 : IntKind.i64.wrap (C * (n : Int) + a) = C * (n : Int) + a := (by rw [IntKind.wrap_i64]; omega); have hw3 : IntKind.i64.wrap (S + (C * (n : Int) + a)) = S + (C * (n : Int) + a) := (by rw [IntKind.wrap_i64]; omega); clear hS7 hb7 hd hn))
      all_goals go_wp2
      go_roundw
      case rel => exact ⟨k + 1, by omega, by go_num, by rw [HSN.out, HWX.out, HN.out], HB8.out⟩
      case measure => simp [intOf]; omega
    · have HW := Lib.hid (show gS (wantH R) (R.hs.take k) = gS (wantH R) R.hs by rw [take_all (by have := HM1.out; omega)])
      rw [HW.out]
      have hfs : gS flA LF = - gS (wantH R) R.hs := by rw [HL.out, gS_perm flA (srt_perm _)]; exact flows_sum HOK.out
      obtain ⟨WW, hWW⟩ : ∃ x, gS (wantH R) R.hs = x := ⟨_, rfl⟩
      rw [hWW] at hfs ⊢
      have hfok : ∀ f ∈ LF, (f.day % 7 < 5 ∧ f.a < 0 ∧ f.kind = 4) ∧ -1600000000000000 ≤ f.a := fun f hf => by
        rw [HL.out, srt_mem] at hf
        exact ⟨flR_ok R _ _ f hf, flR_bd HOK.out _ _ f hf⟩
      have HFS := Lib.hid hfs
      have HFO := Lib.hid hfok
      obtain ⟨V, hV⟩ : ∃ X, X = wr := ⟨_, rfl⟩
      subst hV
      have zV := hbr.size
      clear hfs hfok hWW HW hb8 htk hbr HXR
      go_wp2
      go_loopw [9, 66] (fun sv iv wr => ∃ j : Nat, j ≤ nf ∧ iv = .int .i64 j ∧ sv = .int .i64 (- gS flA (LF.take j)) ∧ Below w4.heap.size w4 wr) (fun _ iv _ => nf - (intOf iv).toNat)
      case atStart => exact ⟨0, by omega, rfl, rfl, HBR.out⟩
      case round =>
        obtain ⟨j, hj, rfl, rfl, hbj⟩ := hrel
        have zj := hbj.size
        have hbd := gS_bd (f := flA) (B := 1600000000000000) (L := LF.take j) (fun f hf => by have := HFO.out f (List.mem_of_mem_take hf); unfold flA; omega)
        have htj : (LF.take j).length ≤ j := by rw [List.length_take]; omega
        have HBJ := Lib.hid hbj
        by_cases hjn : j < nf
        · obtain ⟨b', off', fday, fa, fkind, fref, rfl, -, hbl, hf, q0, q1, q2, q3⟩ := (HS4.out.below hbj).flow hjn
          have hfk := HFO.out _ (List.mem_of_getElem? hf)
          simp only at hfk
          obtain ⟨⟨f1, f2, f3⟩, f4⟩ := hfk
          have hsn : gS flA (LF.take (j + 1)) = gS flA (LF.take j) + fa := by rw [take_snocZ hf, gS_append]; simp [gS, flA]
          obtain ⟨S, hSS⟩ : ∃ S, gS flA (LF.take j) = S := ⟨_, rfl⟩
          rw [hSS] at hbd hsn ⊢
          have hs0 := hbd.2
          have hs1 : -700000000000000000 ≤ S := by omega
          have HSN := Lib.hid hsn
          have f1' : ¬ (4 < fday % 7) := by omega
          have f2' : ¬ (0 ≤ fa) := by omega
          have e1 : decide (4 < fday.tmod 7) = false := by
            have := Int.tmod_lt_of_pos fday (show (0 : Int) < 7 by omega)
            by_cases hp : 0 ≤ fday
            · rw [Int.tmod_eq_emod_of_nonneg hp]; simpa using f1'
            · have h5 := Int.neg_tmod (-fday) 7
              rw [Int.neg_neg] at h5
              have h6 := Int.tmod_nonneg 7 (show 0 ≤ -fday by omega)
              simp; omega
          subst f3
          clear hsn hSS hbd htj hf hbj
          go_wp2
          go_roundw
          case rel => exact ⟨j + 1, by omega, by go_num, by rw [HSN.out]; first | rfl | (congr 1; omega), bal HBJ.out _⟩
          case measure => simp [intOf]; omega
        · have HT := Lib.hid (show gS flA (LF.take j) = - WW by rw [take_all (by have := HNF.out; omega)]; exact HFS.out)
          rw [HT.out]
          have hww : (-(-WW) == WW) = true := by simp
          clear hbd htj hbj
          go_wp2_with fail
          refine (sane34_any _).mono ?_
          rintro e w9 ⟨rfl, hb9⟩
          go_wp2
          go_ret
          exact ⟨rfl, bup (bup HB4.out HBJ.out) hb9⟩
end Go.Proofs.Ytpoidaenkjjdfaa
