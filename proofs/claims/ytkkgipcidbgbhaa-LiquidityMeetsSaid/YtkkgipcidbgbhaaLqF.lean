/- liquidity.Right. -/
import Derived.Test.YtkkgipcidbgbhaaLqE
namespace Go.Proofs.Ytkkgipcidbgbhaa
open Go.RowKit
set_option linter.unusedVariables false
set_option linter.unusedSimpArgs false
theorem rtB_chk {lo hi lot mr mp : Int} {L : List (Int × Int)} {Q : List (Int × Int × Int)} (h : ¬ lcE lo hi lot mr mp L.length (pd2 L) (pa2 L) = 0) : rtB lo hi lot mr mp L Q = false := by unfold rtB; rw [decide_eq_false h]; rfl
theorem rtB_pl {lo hi lot mr mp : Int} {L : List (Int × Int)} {Q : List (Int × Int × Int)} (h : plB L Q = false) : rtB lo hi lot mr mp L Q = false := by unfold rtB; rw [h]; simp
theorem rtB_no {lo hi lot mr mp : Int} {L : List (Int × Int)} {Q : List (Int × Int × Int)} {x : Int × Int} (hx : x ∈ L) (h : okX lo hi lot mr mp Q x = false) : rtB lo hi lot mr mp L Q = false := by
  unfold rtB
  have : L.all (okX lo hi lot mr mp Q) = false := by rw [List.all_eq_false]; exact ⟨x, hx, by simp [h]⟩
  rw [this, Bool.and_false]
theorem rtB_yes {lo hi lot mr mp : Int} {L : List (Int × Int)} {Q : List (Int × Int × Int)} (h1 : lcE lo hi lot mr mp L.length (pd2 L) (pa2 L) = 0) (h2 : plB L Q = true) (h : ∀ x ∈ L, okX lo hi lot mr mp Q x = true) : rtB lo hi lot mr mp L Q = true := by
  unfold rtB
  rw [decide_eq_true h1, h2, List.all_eq_true.2 h]; rfl
theorem okX_none {lo hi lot mr mp d a : Int} {Q : List (Int × Int × Int)} (h : idxI (fun p => decide (p.1 = d)) Q < 0) : okX lo hi lot mr mp Q (d, a) = inB a lo hi := by
  unfold okX; simp only; rw [find_none h]
theorem okX_some {lo hi lot mr mp d a pd pr pp : Int} {k : Nat} {Q : List (Int × Int × Int)} (h : idxI (fun p => decide (p.1 = d)) Q = k) (hq : Q[k]? = some (pd, pr, pp)) : okX lo hi lot mr mp Q (d, a) = enB lo hi lot mr mp a pr pp := by
  unfold okX; simp only; rw [find_some h, hq]
set_option maxHeartbeats 8000000 in
set_option maxRecDepth 100000 in
theorem right_any (lo hi lot mr mp : Int) (P R : Nat → Prop) (v u : Value) (L : List (Int × Int)) (Q : List (Int × Int × Int)) (w : World) (hS : Sl 2 encP P w v L) (hT : Sl 3 encQ R w u Q) (hl : L.length ≤ 1000000) (hq : Q.length ≤ 1000000) :
    Calls Try.prog 16 #[.agg #[.int .i64 lo, .int .i64 hi, .int .i64 lot, .int .i64 mr, .int .i64 mp], v, u] w fun e w' => e = .returned (.bool (rtB lo hi lot mr mp L Q)) ∧ Below w.heap.size w w' := by
  obtain ⟨ao, n, c, rfl, hn, -, -⟩ := hS.shape
  obtain ⟨bo, m, d, rfl, hm, -, -⟩ := hT.shape
  have hn1 : n ≤ 1000000 := by omega
  have hm1 : m ≤ 1000000 := by omega
  obtain ⟨E, hE⟩ : ∃ E, rtB lo hi lot mr mp L Q = E := ⟨_, rfl⟩
  rw [hE]
  have HE := Lib.hid hE
  have HS := Lib.hid hS
  have HT := Lib.hid hT
  have HN := Lib.hid hn
  have HM := Lib.hid hm
  have KA := Lib.hid (fun U (hU : Below w.heap.size w U) => lcheck_any lo hi lot mr mp ao n c _ _ U hn1 (hS.below hU).posAt)
  have KB := Lib.hid (fun U (hU : Below w.heap.size w U) => planned_any P R _ _ L Q U (hS.below hU) (hT.below hU) hl hq)
  have KC := Lib.hid (fun U (cb : Nat) (day : Int) (hU : Below w.heap.size w U) (hc : U.cell? ⟨cb, 0, none⟩ = some (.int .i64 day)) => indexQ_any 66 #[.pointer (some ⟨cb, 0, none⟩)] (fun p => decide (p.1 = day)) R _ Q U (enters_of Try.func66 (by kernel_rfl) rfl) (fun W hW x _ => by obtain ⟨d, r, p⟩ := x; exact rt1_any cb day d r p W (keepB hW hc)) (hT.below hU) hq)
  obtain ⟨ce, hce⟩ : ∃ ce, lcE lo hi lot mr mp n (pd2 L) (pa2 L) = ce := ⟨_, rfl⟩
  rw [hce] at KA
  have HC := Lib.hid hce
  clear hS hT hl hq hn hm hE hce
  by_cases h0 : ce = 0
  case neg =>
    have hf : E = false := by rw [← HE.out]; exact rtB_chk (by rw [HN.out, HC.out]; exact h0)
    subst hf
    have h0' : (ce == 0) = false := by simpa using h0
    go_enter Try.func16, Try.ntmps16
    go_wp2_with fail
    refine (KA.out _ (bal brefl _)).mono ?_
    rintro e w1 ⟨rfl, hb1⟩
    go_wp2
    go_ret
    exact ⟨rfl, bup (bal brefl _) hb1⟩
  subst h0
  obtain ⟨hb, hin, -, -⟩ := lcE_zero HC.out
  have HB := Lib.hid hb
  have HIN := Lib.hid hin
  obtain ⟨pb, hpb⟩ : ∃ b, plB L Q = b := ⟨_, rfl⟩
  rw [hpb] at KB
  have HPB := Lib.hid hpb
  clear hb hin hpb
  cases pb
  case false =>
    have hf : E = false := by rw [← HE.out]; exact rtB_pl HPB.out
    subst hf
    go_enter Try.func16, Try.ntmps16
    go_wp2_with fail
    refine (KA.out _ (bal brefl _)).mono ?_
    rintro e w1 ⟨rfl, hb1⟩
    have hB1 := bup (bal brefl _) hb1
    clear hb1
    go_wp2_with fail
    refine (KB.out _ hB1).mono ?_
    rintro e w2 ⟨rfl, hb2⟩
    go_wp2
    go_ret
    exact ⟨rfl, bup hB1 hb2⟩
  go_enter Try.func16, Try.ntmps16
  go_wp2_with fail
  refine (KA.out _ (bal brefl _)).mono ?_
  rintro e w1 ⟨rfl, hb1⟩
  have hz1 : w.heap.size + 1 ≤ w1.heap.size := by have := hb1.size; simpa using this
  have hB1 := bup (bal brefl _) hb1
  have x0 : w1.cell? ⟨w.heap.size, 0, none⟩ = some (.int .i64 lo) := boxed_cell hb1 0 rfl
  have x1 : w1.cell? ⟨w.heap.size, 1, none⟩ = some (.int .i64 hi) := boxed_cell hb1 1 rfl
  have x2 : w1.cell? ⟨w.heap.size, 2, none⟩ = some (.int .i64 lot) := boxed_cell hb1 2 rfl
  have x3 : w1.cell? ⟨w.heap.size, 3, none⟩ = some (.int .i64 mr) := boxed_cell hb1 3 rfl
  have x4 : w1.cell? ⟨w.heap.size, 4, none⟩ = some (.int .i64 mp) := boxed_cell hb1 4 rfl
  clear hb1
  go_wp2_with fail
  refine (KB.out _ hB1).mono ?_
  rintro e w2 ⟨rfl, hb2⟩
  have HX0 := Lib.hid (keepB hb2 x0)
  have HX1 := Lib.hid (keepB hb2 x1)
  have HX2 := Lib.hid (keepB hb2 x2)
  have HX3 := Lib.hid (keepB hb2 x3)
  have HX4 := Lib.hid (keepB hb2 x4)
  have HB2 := Lib.hid (bup hB1 hb2)
  have hz2 : w.heap.size + 1 ≤ w2.heap.size := by have := hb2.size; omega
  clear hB1 hb2 x0 x1 x2 x3 x4
  go_wp2
  go_loopw [22] (fun iv wr => ∃ k : Nat, k ≤ n ∧ iv = .int .i64 k ∧ (∀ x ∈ L.take k, okX lo hi lot mr mp Q x = true) ∧ Below w2.heap.size w2 wr) (fun iv _ => n - (intOf iv).toNat)
  case atStart => exact ⟨0, by omega, rfl, by simp, brefl⟩
  case round =>
    obtain ⟨k, hk, rfl, hall, hbr⟩ := hrel
    have HALL := Lib.hid hall
    have HBR := Lib.hid (bup HB2.out hbr)
    have HBG := Lib.hid hbr
    have hzr := hbr.size
    clear hall
    by_cases hlt : k < n
    · obtain ⟨b, off, xd, xa, rfl, -, hbl, hx, k0, k1⟩ := (HS.out.below HBR.out).pos hlt
      have y0 := keepB hbr HX0.out
      have y1 := keepB hbr HX1.out
      have y2 := keepB hbr HX2.out
      have y3 := keepB hbr HX3.out
      have y4 := keepB hbr HX4.out
      have hxa := inB_iff.1 (HIN.out k hlt)
      rw [(pd2_get hx).2] at hxa
      simp only at hxa
      obtain ⟨xa0, xa1⟩ := hxa
      have HX := Lib.hid hx
      obtain ⟨i, hi⟩ : ∃ i, idxI (fun p : Int × Int × Int => decide (p.1 = xd)) Q = i := ⟨_, rfl⟩
      have HI := Lib.hid hi
      have HQ := Lib.hid (KC.out (wr.alloc (.cells #[.int .i64 xd, .int .i64 xa] 35)) wr.heap.size xd (bal HBR.out _) ((World.cell?_alloc_at _ _ _ _ rfl).trans rfl))
      rw [hi] at HQ
      have c1 : (wr.alloc (.cells #[.int .i64 xd, .int .i64 xa] 35)).cell? ⟨wr.heap.size, 1, none⟩ = some (.int .i64 xa) := (World.cell?_alloc_at _ _ _ _ rfl).trans rfl
      have HY0 := Lib.hid (keepA (o := .cells #[.int .i64 xd, .int .i64 xa] 35) y0)
      have HY1 := Lib.hid (keepA (o := .cells #[.int .i64 xd, .int .i64 xa] 35) y1)
      have HY2 := Lib.hid (keepA (o := .cells #[.int .i64 xd, .int .i64 xa] 35) y2)
      have HY3 := Lib.hid (keepA (o := .cells #[.int .i64 xd, .int .i64 xa] 35) y3)
      have HY4 := Lib.hid (keepA (o := .cells #[.int .i64 xd, .int .i64 xa] 35) y4)
      have HC1 := Lib.hid c1
      clear hx hi hbr y0 y1 y2 y3 y4 c1
      go_wp2_with fail
      refine HQ.out.mono ?_
      rintro e w3 ⟨rfl, hb3⟩
      have z0 := up_cell (keepB hb3 HY0.out)
      have z1 := up_cell (keepB hb3 HY1.out)
      have z2 := up_cell (keepB hb3 HY2.out)
      have z3 := up_cell (keepB hb3 HY3.out)
      have z4 := up_cell (keepB hb3 HY4.out)
      have z5 := up_cell (keepB hb3 HC1.out)
      have HB3 := Lib.hid (bup (bal HBR.out _) hb3)
      have hz3 : w2.heap.size ≤ w3.heap.size := by have := hb3.size; simp at this; omega
      have HG := Lib.hid (bup (bal HBG.out _) hb3)
      clear hb3 HQ HY0 HY1 HY2 HY3 HY4 HC1
      by_cases hi0 : i < 0
      · have hok := Lib.hid (okX_none (lo := lo) (hi := hi) (lot := lot) (mr := mr) (mp := mp) (a := xa) (by rw [HI.out]; exact hi0))
        have g1 : decide (i < 0) = true := decide_eq_true hi0
        have g2 : decide (i ≥ 0) = false := decide_eq_false (by omega)
        cases hw : inB xa lo hi
        · have hf : E = false := by rw [← HE.out]; exact rtB_no (List.mem_of_getElem? HX.out) (by rw [hok.out]; exact hw)
          subst hf
          go_wp2_with fail
          (refine wp_region_up (by kernel_rfl) (by kernel_rfl) ?_); (repeat (go_big_quiet_step ((go_at_call 67; refine (within_any _ _ _ _ _ _ _).mono ?_; rw [hw]; exact fun _ _ hh => ⟨hh.1, ⟨_, bup (Subtype.property _) hh.2⟩, rfl⟩)))); (refine wpQuiet_nil ?_); (rintro _ ⟨⟨w4, hb4⟩, rfl⟩)
          go_wp2
          go_ret
          exact ⟨rfl, bup HB3.out hb4⟩
        · have hstep := Lib.hid (show ∀ x ∈ L.take (k + 1), okX lo hi lot mr mp Q x = true from fun x hx => by
            rw [take_snocZ HX.out] at hx
            rcases List.mem_append.1 hx with hx | hx
            · exact HALL.out x hx
            · rw [List.mem_singleton.1 hx, hok.out]; exact hw)
          go_wp2_with fail
          (refine wp_region_up (by kernel_rfl) (by kernel_rfl) ?_); (repeat (go_big_quiet_step ((go_at_call 67; refine (within_any _ _ _ _ _ _ _).mono ?_; rw [hw]; exact fun _ _ hh => ⟨hh.1, ⟨_, bup (Subtype.property _) hh.2⟩, rfl⟩)))); (refine wpQuiet_nil ?_); (rintro _ ⟨⟨w4, hb4⟩, rfl⟩)
          go_wp2
          go_roundw
          case rel => exact ⟨k + 1, by omega, by go_num, hstep.out, bup HG.out hb4⟩
          case measure => simp [intOf]; omega
      · obtain ⟨q, rfl⟩ := Int.eq_ofNat_of_zero_le (show 0 ≤ i by omega)
        have hqm : q < m := by have := idxI_lt (fun p : Int × Int × Int => decide (p.1 = xd)) Q; rw [HI.out, HM.out] at this; omega
        obtain ⟨b2, off2, pd, pr, pp, rfl, -, hbl2, hxq, q0, q1, q2⟩ := (HT.out.below HB3.out).pln hqm
        have hok := Lib.hid (okX_some (lo := lo) (hi := hi) (lot := lot) (mr := mr) (mp := mp) (a := xa) HI.out hxq)
        have g1 : decide ((q : Int) < 0) = false := decide_eq_false (by omega)
        have g2 : decide ((q : Int) ≥ 0) = true := decide_eq_true (by omega)
        have hqz : (q : Int) < m := by omega
        have z6 := up_cell q0
        have z7 := up_cell q1
        have z8 := up_cell q2
        clear q0 q1 q2 hxq
        cases hw : enB lo hi lot mr mp xa pr pp
        · have hf : E = false := by rw [← HE.out]; exact rtB_no (List.mem_of_getElem? HX.out) (by rw [hok.out]; exact hw)
          subst hf
          go_wp2_with fail
          (refine wp_region_up (by kernel_rfl) (by kernel_rfl) ?_); (repeat (go_big_quiet_step ((go_at_call 68; refine (enough_any _ _ _ _ _ _ _ _ _ _ HB.out xa0 xa1).mono ?_; rw [hw]; exact fun _ _ hh => ⟨hh.1, ⟨_, bup (Subtype.property _) hh.2⟩, rfl⟩)))); (refine wpQuiet_nil ?_); (rintro _ ⟨⟨w4, hb4⟩, rfl⟩)
          go_wp2
          go_ret
          exact ⟨rfl, bup HB3.out hb4⟩
        · have hstep := Lib.hid (show ∀ x ∈ L.take (k + 1), okX lo hi lot mr mp Q x = true from fun x hx => by
            rw [take_snocZ HX.out] at hx
            rcases List.mem_append.1 hx with hx | hx
            · exact HALL.out x hx
            · rw [List.mem_singleton.1 hx, hok.out]; exact hw)
          go_wp2_with fail
          (refine wp_region_up (by kernel_rfl) (by kernel_rfl) ?_); (repeat (go_big_quiet_step ((go_at_call 68; refine (enough_any _ _ _ _ _ _ _ _ _ _ HB.out xa0 xa1).mono ?_; rw [hw]; exact fun _ _ hh => ⟨hh.1, ⟨_, bup (Subtype.property _) hh.2⟩, rfl⟩)))); (refine wpQuiet_nil ?_); (rintro _ ⟨⟨w4, hb4⟩, rfl⟩)
          go_wp2
          go_roundw
          case rel => exact ⟨k + 1, by omega, by go_num, hstep.out, bup HG.out hb4⟩
          case measure => simp [intOf]; omega
    · have hf : E = true := by
        rw [← HE.out]
        refine rtB_yes (by rw [HN.out, HC.out]) HPB.out (fun x hx => HALL.out x ?_)
        rw [take_all (by have := HN.out; omega)]; exact hx
      subst hf
      clear hbr
      go_wp2
      go_ret
      exact ⟨rfl, HBR.out⟩
end Go.Proofs.Ytkkgipcidbgbhaa
