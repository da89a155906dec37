/- treasury/risk's debt.coupons. -/
import Derived.Test.YtpoidaenkjjdfaaZRgP
import Derived.Test.YtpoidaenkjjdfaaZCpnE
namespace Go.Proofs.Ytpoidaenkjjdfaa
open Go.RowKit Go.Shelf
set_option linter.unusedVariables false
set_option linter.unusedSimpArgs false
attribute [local go_sem] Oper.semAt_some
/-- what a day brings to the sum of a year -/
def dayG (c y d : Int) : Int := if yrOf d = y then c else 0
def coupF (R : Reg) (y : Int) (x : Hold) : Int :=
  sumF (dayG (cpN (secOf R x).id (secOf R x).un (secOf R x).is (secOf R x).ma (secOf R x).ra (secOf R x).ev x.a) y) (daysL (secOf R x).id (secOf R x).un (secOf R x).is (secOf R x).ma (secOf R x).ra (secOf R x).ev)
theorem cpN_bd {id un is ma ra ev n : Int} (h : SecOk id un is ma ra ev) (h0 : 0 ≤ n) (h1 : n ≤ 1000000000000) : 0 ≤ cpN id un is ma ra ev n ∧ cpN id un is ma ra ev n ≤ 300000000000 := by
  unfold cpN
  rw [if_pos (ccE_of h h0 h1)]
  have he : 0 ≤ ev ∧ ev ≤ 12 := by have := h.ev; omega
  have a1 := mul_bd h0 h1 h.ra0 h.ra1
  have a2 := mul_bd a1.1 a1.2 he.1 he.2
  omega
theorem dayN_600 {id un is ma ra ev : Int} (h : SecOk id un is ma ra ev) : dayN id un is ma ra ev ≤ 600 := by
  unfold dayN
  have h1 := h.ma1
  have h0 := h.ma0
  split
  · rcases h.ev with ⟨rfl, _⟩ | ⟨rfl, _⟩ | ⟨rfl, _⟩ | ⟨rfl, _⟩ | ⟨rfl, _⟩ <;> omega
  · omega
theorem coupF_bd {R : Reg} (h : RhOk R) (y : Int) : ∀ x ∈ R.hs, 0 ≤ coupF R y x ∧ coupF R y x ≤ 300000000000000 := fun x hx => by
  have ha := h.amt x hx
  have hs := h.sec x hx
  have hc := cpN_bd hs ha.1 ha.2
  have hd := dayN_600 hs
  unfold coupF
  have h1 := sumF_bdk (f := dayG (cpN (secOf R x).id (secOf R x).un (secOf R x).is (secOf R x).ma (secOf R x).ra (secOf R x).ev x.a) y) (B := 300000000000) (L := daysL (secOf R x).id (secOf R x).un (secOf R x).is (secOf R x).ma (secOf R x).ra (secOf R x).ev) (k := dayN (secOf R x).id (secOf R x).un (secOf R x).is (secOf R x).ma (secOf R x).ra (secOf R x).ev) (by omega) (fun d _ => by unfold dayG; split <;> omega) (by unfold daysL; simp; omega)
  rw [List.take_of_length_le (by unfold daysL; simp)] at h1
  omega
set_option maxHeartbeats 4000000 in
set_option maxRecDepth 100000 in
theorem rcoupons_any (P : Nat → Prop) (vs vh vm : Value) (R : Reg) (y : Int) (w : World) (hr : RgIn P w vs vh vm R) (hS : R.secs.length ≤ 1000000) (hz : RhOk R) :
    Calls Try.prog 105 #[.agg #[vs, vh, vm], .int .i64 y] w fun e w' => e = .returned (.int .i64 (sumF (coupF R y) R.hs)) ∧ Below w.heap.size w w' := by
  have HR := Lib.hid (hr.mono (Q := fun b => b < w.heap.size) fun b _ h => h)
  clear hr
  refine (callsIn_wide (n := 3)).1 ?_
  refine callsIn_of_wp_marks Try.func105 rfl trivial ?_ rfl
  obtain ⟨a0, n0, c0, rfl, -, -, -⟩ := HR.out.S.shape
  obtain ⟨a1, n1, c1, rfl, -, -, -⟩ := HR.out.H.shape
  obtain ⟨a2, n2, c2, rfl, -, -, -⟩ := HR.out.M.shape
  simp only [Try.ntmps105, List.size_toArray, List.length_cons, List.length_nil, Nat.reduceAdd, Nat.reduceSub, Array.replicate_succ, Array.replicate_zero, List.push_toArray, List.append_toArray, List.nil_append, List.cons_append]
  gi_wp2
  obtain ⟨W0, hW0⟩ : ∃ W0, ((w.alloc (Obj.cells #[Value.slice a0 n0 c0, Value.slice a1 n1 c1, Value.slice a2 n2 c2] 144)).alloc (Obj.cells #[Value.int IntKind.i64 y] 3)).alloc (Obj.cells #[Value.int IntKind.i64 0] 3) = W0 := ⟨_, rfl⟩
  have hb0 : Below w.heap.size w W0 := by rw [← hW0]; exact bal (bal (bal brefl _) _) _
  have hs0 : W0.heap.size = w.heap.size + 3 := by rw [← hW0]; simp
  have hy0 : Boxed W0 (w.heap.size + 1) 3 (.int .i64 y) := by
    rw [← hW0]; have := Boxed.new (w.alloc (Obj.cells #[Value.slice a0 n0 c0, Value.slice a1 n1 c1, Value.slice a2 n2 c2] 144)) 3 (.int .i64 y); rw [World.size_alloc] at this; exact this.alloc _
  have hc0 : Boxed W0 (w.heap.size + 2) 3 (.int .i64 0) := by
    rw [← hW0]; have := Boxed.new ((w.alloc (Obj.cells #[Value.slice a0 n0 c0, Value.slice a1 n1 c1, Value.slice a2 n2 c2] 144)).alloc (Obj.cells #[Value.int IntKind.i64 y] 3)) 3 (.int .i64 0); rw [World.size_alloc, World.size_alloc] at this; exact this
  rw [hW0]
  clear hW0
  refine wpIn_rangeB (N := w.heap.size) (xs := R.hs) (encs := encE R) rfl (by omega) rfl trivial (enters_of Try.func116 (by kernel_rfl) rfl) (by omega)
    (each_stops (3 - 1) w.heap.size _ _ _ R W0 (HR.out.belowN hb0) (by omega) hS (Nat.le_trans hz.len (by omega))) (fun _ => rfl)
    (fun k W => Boxed W (w.heap.size + 1 + 1) 3 (.int .i64 (sumF (coupF R y) (R.hs.take k))) ∧ Boxed W (w.heap.size + 1) 3 (.int .i64 y) ∧ Below w.heap.size w W)
    (fun k A B h hb => ⟨(hb.block _ (by omega)).trans h.1, (hb.block _ (by omega)).trans h.2.1, h.2.2.trans (hb.mono (by omega))⟩)
    ⟨hc0, hy0, hb0⟩
    (fun x a' W => ∃ b1 b2, w.heap.size + 5 ≤ b1 ∧ w.heap.size + 5 ≤ b2 ∧ a' = { tmps := #[Value.agg #[Value.slice a0 n0 c0, Value.slice a1 n1 c1, Value.slice a2 n2 c2], Value.int IntKind.i64 y, Value.pointer (some ⟨w.heap.size, 0, none⟩), Value.pointer (some ⟨w.heap.size + 1, 0, none⟩), Value.int IntKind.i64 0, Value.pointer (some ⟨w.heap.size + 1 + 1, 0, none⟩), Value.pointer (some ⟨b1, 0, none⟩), Value.pointer (some ⟨b2, 0, none⟩), undef, undef, undef, undef, Value.agg #[Value.slice a0 n0 c0, Value.slice a1 n1 c1, Value.slice a2 n2 c2], Value.func (Fn.func 116) #[Value.agg #[Value.slice a0 n0 c0, Value.slice a1 n1 c1, Value.slice a2 n2 c2]] #[], aggSec (secOf R x), aggHold x, undef, undef, undef, undef, undef, undef, undef, undef, undef, undef, undef, undef, undef, undef, undef, undef, undef, undef, undef, undef, undef, undef, undef], defers := [] } ∧
      W.heap[b1]? = some (.cells (encSec (secOf R x)).toArray 29 (0, 0)) ∧ W.heap[b2]? = some (.cells (encHold x).toArray 98 (0, 0)))
    (fun x a' A B h hb hl => by
      obtain ⟨b1, b2, h1, h2, h3, h4, h5⟩ := h
      exact ⟨b1, b2, h1, h2, h3, (hb _ (by omega) (Array.getElem?_eq_some_iff.1 h4).1).trans h4, (hb _ (by omega) (Array.getElem?_eq_some_iff.1 h5).1).trans h5⟩)
    ?assign ?body ?done
  case assign =>
    intro l k x W K hsz hK
    simp only [encE, aggSec, aggHold]
    gi_wp2
    refine hK _ _ (bal (bal brefl _) _) ⟨W.heap.size, W.heap.size + 1, by omega, by omega, rfl, ?_, ?_⟩
    · exact (Below.heap_alloc _ _ _ (by simp)).trans (World.alloc_heap_new W _)
    · have := World.alloc_heap_new (W.alloc (Obj.cells (encSec (secOf R x)).toArray 29 (0, 0))) (Obj.cells (encHold x).toArray 98 (0, 0)); rw [World.size_alloc] at this; exact this
  case body =>
    rintro l k x a' W hsz hx ⟨hc, hy, hb⟩ ⟨b1, b2, h1, h2, rfl, h4, h5⟩
    have hm : x ∈ R.hs := List.mem_of_getElem? hx
    obtain ⟨T, hT⟩ : ∃ T, sumF (coupF R y) (R.hs.take k) = T := ⟨_, rfl⟩
    have hTb := sumF_bdk (k := k) (by omega) (coupF_bd hz y) hz.len
    have hT2 := sumF_take (f := coupF R y) hx
    have ham := hz.amt x hm
    have hse := hz.sec x hm
    rw [hT] at hc hT2 hTb
    have hF : coupF R y x = sumF (dayG (cpN (secOf R x).id (secOf R x).un (secOf R x).is (secOf R x).ma (secOf R x).ra (secOf R x).ev x.a) y) (daysL (secOf R x).id (secOf R x).un (secOf R x).is (secOf R x).ma (secOf R x).ra (secOf R x).ev) := rfl
    rw [hF] at hT2
    clear hF
    obtain ⟨sx, hsx⟩ : ∃ s, secOf R x = s := ⟨_, rfl⟩
    rw [hsx] at h4 hse hT2 ⊢
    clear hsx
    obtain ⟨id, un, is, ma, ra, ev, ix⟩ := sx
    obtain ⟨C, hC⟩ : ∃ C, cpN id un is ma ra ev x.a = C := ⟨_, rfl⟩
    have hCb := cpN_bd hse ham.1 ham.2
    rw [hC] at hCb
    obtain ⟨E, hE⟩ : ∃ E, ccE id un is ma ra ev x.a = E := ⟨_, rfl⟩
    have HCO := Lib.hid (fun (U : World) => coupon_any id un is ma ra ev ix x.a U)
    rw [hC, hE] at HCO
    obtain ⟨D, hD⟩ : ∃ D, daysL id un is ma ra ev = D := ⟨_, rfl⟩
    have hDl : D.length ≤ 600 := by rw [← hD]; unfold daysL; simp; exact dayN_600 hse
    have HDA := Lib.hid (fun (U : World) => (days_any id un is ma ra ev ix U).mono fun e w' h => daysMade_sl id un is ma ra ev ix h)
    rw [hD] at HDA
    have hT3 : sumF (coupF R y) (R.hs.take (k + 1)) = T + sumF (dayG C y) D := by rw [hT2]; dsimp only; rw [hC, hD]
    have HS := Lib.hid hT3
    have hm0 : W.cell? ⟨b1, 0, none⟩ = some (.int .i64 id) := by unfold World.cell?; simp [h4, encSec]
    have hm1 : W.cell? ⟨b1, 1, none⟩ = some (.int .i64 un) := by unfold World.cell?; simp [h4, encSec]
    have hm2 : W.cell? ⟨b1, 2, none⟩ = some (.int .i64 is) := by unfold World.cell?; simp [h4, encSec]
    have hm3 : W.cell? ⟨b1, 3, none⟩ = some (.int .i64 ma) := by unfold World.cell?; simp [h4, encSec]
    have hm4 : W.cell? ⟨b1, 4, none⟩ = some (.int .i64 ra) := by unfold World.cell?; simp [h4, encSec]
    have hm5 : W.cell? ⟨b1, 5, none⟩ = some (.int .i64 ev) := by unfold World.cell?; simp [h4, encSec]
    have hm6 : W.cell? ⟨b1, 6, none⟩ = some (.bool ix) := by unfold World.cell?; simp [h4, encSec]
    have hxa : W.cell? ⟨b2, 2, none⟩ = some (.int .i64 x.a) := by unfold World.cell?; simp [h5, encHold]
    have hl1 : b1 < W.heap.size := (Array.getElem?_eq_some_iff.1 h4).1
    have H4 := Lib.hid h4
    have HC := Lib.hid hc
    have HYY := Lib.hid hy
    have HB := Lib.hid hb
    have HX := Lib.hid hx
    have HSE := Lib.hid hse
    have HDL := Lib.hid hDl
    have hs2 : w.heap.size + 1 + 1 < W.heap.size := by omega
    clear hT hT2 hT3 hC hE hD hDl h4 h5 hc hy hb hx hy0 hc0 hb0 hse
    have hfol : Try.prog.follows .mixedOrders = true := by kernel_rfl
    gi_wp2_with fail
    refine ⟨trivial, (CallsIn.inRound l (callsIn_wide.2 (HCO.out _))).mono ?_⟩
    rintro e w1 ⟨rfl, hb1⟩
    obtain ⟨hc1, hf1⟩ := bcell hb1
    have q0 := (hc1 b1 0 hl1).trans hm0
    have q1 := (hc1 b1 1 hl1).trans hm1
    have q2 := (hc1 b1 2 hl1).trans hm2
    have q3 := (hc1 b1 3 hl1).trans hm3
    have q4 := (hc1 b1 4 hl1).trans hm4
    have q5 := (hc1 b1 5 hl1).trans hm5
    have q6 := (hc1 b1 6 hl1).trans hm6
    have HB1 := Lib.hid hb1
    have hz1 := hb1.size
    clear hb1 hc1 hf1
    gi_wp2_with fail
    refine ⟨trivial, (CallsIn.inRound l (callsIn_wide.2 (HDA.out _))).mono ?_⟩
    rintro e w2 ⟨v, rfl, hsl, hb2⟩
    obtain ⟨p, nd, cd, rfl, hld, hnc, hcm⟩ := hsl.shape
    have HSL := Lib.hid hsl
    have HB2 := Lib.hid (bup HB1.out hb2)
    have hz2 := hb2.size
    have HLD := Lib.hid hld
    have hnd : nd ≤ 600 := by have := HDL.out; omega
    clear hsl hb2 hld HCO HDA hm0 hm1 hm2 hm3 hm4 hm5 hm6 q0 q1 q2 q3 q4 q5 q6 hxa H4
    have hyc2 := HYY.out.kept (W' := w2) (row := none) ⟨HB2.out.os, HB2.out.tape, HB2.out.output, HB2.out.size, fun j hj _ => HB2.out.block j hj⟩ (by simp)
    have hcc2 := HC.out.kept (W' := w2) (row := none) ⟨HB2.out.os, HB2.out.tape, HB2.out.output, HB2.out.size, fun j hj _ => HB2.out.block j hj⟩ (by simp)
    have HST0 : Stay w.heap.size W0.heap.size W w2 := ⟨HB2.out.mono (by omega), fun j _ hj => HB2.out.block j hj⟩
    have HST1 := Lib.hid HST0
    have HY2 := Lib.hid hyc2
    have HC2 := Lib.hid hcc2
    clear HST0 hyc2 hcc2
    gi_wp2_with fail
    gi_loopw [26] (fun i wr => ∃ j : Nat, j ≤ nd ∧ i = .int .i64 j ∧ Boxed wr (w.heap.size + 1 + 1) 3 (.int .i64 (T + sumF (dayG C y) (D.take j))) ∧ Boxed wr (w.heap.size + 1) 3 (.int .i64 y) ∧ Stay w.heap.size W0.heap.size w2 wr)
      (fun i _ => nd - (intOf i).toNat)
    case atStart => exact ⟨0, Nat.zero_le _, rfl, by simpa [sumF] using HC2.out, HY2.out, Stay.refl⟩
    case round =>
      obtain ⟨j, hj, rfl, hcr, hyr, hst⟩ := hrel
      have HSr := Lib.hid (HSL.out.block hst.low.size fun b hb hlt => hst.high b (by omega) hlt)
      have hszr := hst.low.size
      by_cases hlt : j < nd
      · obtain ⟨db, off, d, rfl, hdp, hdl, hdk, hdc⟩ := HSr.out.int hlt
        have hG := sumF_take (f := dayG C y) hdk
        have hGb := sumF_bdk (f := dayG C y) (B := 300000000000) (L := D) (k := j) (by omega) (fun d _ => by unfold dayG; split <;> omega) (by have := HDL.out; omega)
        obtain ⟨G, hGG⟩ : ∃ G, sumF (dayG C y) (D.take j) = G := ⟨_, rfl⟩
        rw [hGG] at hG hGb hcr
        have hccr := hcr.cell
        have hcfr := hcr.frozen
        have hycr := hyr.cell
        obtain ⟨q, hq⟩ : ∃ q, yrOf d = q := ⟨_, rfl⟩
        have HYR := Lib.hid (fun (U : World) => year_any d U)
        rw [hq] at HYR
        have hdg : dayG C y d = if q = y then C else 0 := by unfold dayG; rw [hq]
        have HG := Lib.hid hG
        have HDG := Lib.hid hdg
        have HCR := Lib.hid hcr
        have HYRR := Lib.hid hyr
        have HST := Lib.hid hst
        clear hG hGG hq hdg hcr hyr hst hdk
        gi_wp2_with fail
        by_cases hqy : q = y
        · subst hqy
          have HS2 := Lib.hid (show T + sumF (dayG C q) (D.take (j + 1)) = T + G + C by rw [HG.out, HDG.out, if_pos rfl]; omega)
          clear HG HDG
          gi_region_with_o (refine ⟨trivial, (CallsIn.inRound l (callsIn_wide.2 (HYR.out _))).mono ?_⟩; rintro e w' ⟨rfl, rfl⟩)
          all_goals
            gi_wp2
            go_roundw
            case rel => exact ⟨j + 1, by omega, by simp, by rw [HS2.out]; exact (boxed_drew HCR.out).set _, (boxed_drew HYRR.out).other (by omega) _, HST.out.trans (stay_drew.trans (stay_set (by omega) (by omega) _))⟩
            case measure => simp [intOf]; omega
        · have HS2 := Lib.hid (show T + sumF (dayG C y) (D.take (j + 1)) = T + G by rw [HG.out, HDG.out, if_neg hqy]; omega)
          clear HG HDG
          gi_region_with_o (refine ⟨trivial, (CallsIn.inRound l (callsIn_wide.2 (HYR.out _))).mono ?_⟩; rintro e w' ⟨rfl, rfl⟩)
          all_goals
            gi_wp2
            go_roundw
            case rel => exact ⟨j + 1, by omega, by simp, by rw [HS2.out]; exact boxed_drew HCR.out, boxed_drew HYRR.out, HST.out.trans stay_drew⟩
            case measure => simp [intOf]; omega
      · obtain rfl : j = nd := by omega
        have HCR := Lib.hid hcr
        have HYRR := Lib.hid hyr
        have HST := Lib.hid hst
        clear hcr hyr hst
        gi_wp2
        refine ⟨HST1.out.trans HST.out, ?_, HYRR.out, HB.out.trans (HST1.out.trans HST.out).low⟩
        have := HCR.out
        rw [List.take_of_length_le (Nat.le_of_eq HLD.out), ← HS.out] at this
        exact this
  case done =>
    rintro D W hD ⟨hc, hy, hb⟩ hK
    have hcc := hc.cell
    rw [List.take_length] at hcc
    gi_wp2
    refine ⟨by simp, .inl ⟨_, _, rfl, run_takeDeferred hK, ?_⟩⟩
    exact ⟨_, results_tmp rfl _ _ _, rfl, hb.trans (below_put (by omega))⟩
end Go.Proofs.Ytpoidaenkjjdfaa
