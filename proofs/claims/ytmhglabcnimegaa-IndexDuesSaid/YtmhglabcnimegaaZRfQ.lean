/- The reference of layer 34: Pending. Printed by wip/gen/rfq.py. -/
import Derived.Test.YtmhglabcnimegaaZRfP
namespace Go.Proofs.Ytmhglabcnimegaa
open Go.RowKit
set_option linter.unusedVariables false
set_option linter.unusedSimpArgs false
set_option maxHeartbeats 8000000 in
set_option maxRecDepth 100000 in
theorem r34pending_any (P : Nat → Prop) (vs vh vm : Value) (R : Reg) (day : Int) (w : World) (hr : RgIn P w vs vh vm R) (hS : R.secs.length ≤ 1000000) (hH : R.hs.length ≤ 1000000) (hM : R.ms.length ≤ 1000000) :
    Calls Try.prog 69 #[.agg #[vs, vh, vm], .int .i64 day] w (PdW (pdL R day) (pdE R day) w) := by
  obtain ⟨a0, n0, c0, rfl, -, -, -⟩ := hr.S.shape
  obtain ⟨a1, n1, c1, rfl, -, -, -⟩ := hr.H.shape
  obtain ⟨a2, n2, c2, rfl, -, -, -⟩ := hr.M.shape
  obtain ⟨E0, hE0⟩ : ∃ E, chkE R = E := ⟨_, rfl⟩
  have KA := Lib.hid (fun U (hU : Below w.heap.size w U) => fcheck_any P _ _ _ R U (hr.below hU) hS hH hM)
  have hrq := fun U (hU : Below w.heap.size w U) => (hr.below hU).mono (Q := fun _ => True) (fun _ _ _ => trivial)
  have KB := Lib.hid (fun U (hU : Below w.heap.size w U) => fAt_any (fun _ => True) _ _ _ R day U (hrq U hU) hS hH hM)
  rw [hE0] at KA
  have HE0 := Lib.hid hE0
  have HR := Lib.hid hr
  clear hE0 hr hrq
  by_cases h0 : E0 = 0
  case neg =>
    have e1 := Lib.hid (show pdE R day = E0 by unfold pdE; rw [HE0.out, if_neg h0])
    have e2 := Lib.hid (show pdL R day = [] by unfold pdL; rw [e1.out, if_neg h0])
    have g1 : (E0 == 0) = false := by simpa using h0
    go_enter Try.func69, Try.ntmps69
    go_wp2_with fail
    refine (KA.out _ (bal brefl _)).mono ?_
    rintro e w1 ⟨rfl, hb1⟩
    go_wp2
    go_ret2
    exact pdW_nil e2.out e1.out (bup (bal brefl _) hb1)
  subst h0
  have hok := chkE_iff.1 HE0.out
  cases hd : inB day 0 35990
  case false =>
    have hdd := inB_not.1 hd
    have e1 := Lib.hid (show pdE R day = 2 by unfold pdE; rw [HE0.out, if_pos rfl, hd]; rfl)
    have e2 := Lib.hid (show pdL R day = [] by unfold pdL; rw [e1.out, if_neg (by omega)])
    rcases (show day < 0 ∨ (0 ≤ day ∧ 35990 < day) by omega) with g | ⟨g, g'⟩
    all_goals
      clear hdd hd
      go_enter Try.func69, Try.ntmps69
      go_wp2_with fail
      refine (KA.out _ (bal brefl _)).mono ?_
      rintro e w1 ⟨rfl, hb1⟩
      go_wp2
      go_ret2
      exact pdW_nil e2.out e1.out (bup (bal brefl _) hb1)
  have e1 := Lib.hid (show pdE R day = 0 by unfold pdE; rw [HE0.out, if_pos rfl, hd]; rfl)
  have e2 := Lib.hid (show pdL R day = (rgAt R day).flatMap (pdF R day) by unfold pdL; rw [e1.out, if_pos rfl])
  obtain ⟨dd0, dd1⟩ := inB_iff.1 hd
  have hal := at_len hok day
  have hsec := hok.sec
  have HSEC := Lib.hid hsec
  have hatp := (hok.cut day).hok
  have HATP := Lib.hid hatp
  clear hsec hatp
  have HAF := Lib.hid (at_find hok day)
  obtain ⟨H, hHH⟩ : ∃ H, rgAt R day = H := ⟨_, rfl⟩
  rw [hHH] at KB e2 hal HAF
  have HHE := Lib.hid (show (⟨R.secs, rgAt R day, msTo day R.ms⟩ : Reg).hs = H from hHH)
  obtain ⟨i1, hi, hz0, hz1, hz2⟩ := info_parts infoDue
  clear hHH hok
  rw [e1.out, e2.out]
  go_enter Try.func69, Try.ntmps69
  go_wp2_with fail
  refine (KA.out _ (bal brefl _)).mono ?_
  rintro e w1 ⟨rfl, hb1⟩
  have HB1 := Lib.hid (bup (bal brefl _) hb1)
  have r0 : w1.cell? ⟨w.heap.size, 0, none⟩ = some (.slice a0 n0 c0) := boxed_cell hb1 0 rfl
  have r1 : w1.cell? ⟨w.heap.size, 1, none⟩ = some (.slice a1 n1 c1) := boxed_cell hb1 1 rfl
  have r2 : w1.cell? ⟨w.heap.size, 2, none⟩ = some (.slice a2 n2 c2) := boxed_cell hb1 2 rfl
  clear hb1
  go_wp2_with fail
  refine (KB.out _ HB1.out).mono ?_
  rintro e w2 ⟨v2, rfl, hS2, hb2⟩
  obtain ⟨ho, hn, hc, rfl, hhn, -, -⟩ := hS2.shape
  have HS2 := Lib.hid hS2
  have HHN := Lib.hid hhn
  have hn8 : hn ≤ 800 := by omega
  have HB2 := Lib.hid (bup HB1.out hb2)
  have HR0 := Lib.hid (keepB hb2 r0)
  have HR1 := Lib.hid (keepB hb2 r1)
  have HR2 := Lib.hid (keepB hb2 r2)
  have hz2' : w.heap.size ≤ w2.heap.size := HB2.out.size
  clear hS2 hhn hb2 r0 r1 r2 hal
  go_wp2
  go_loopw [7, 29] (fun v iv wr => ∃ k : Nat, k ≤ hn ∧ iv = .int .i64 k ∧ wr.ownsRow w2.heap.size 82 5 v ((H.take k).flatMap (pdF R day)).length (flatE encDue ((H.take k).flatMap (pdF R day))) ∧ Below w2.heap.size w2 wr) (fun _ iv _ => hn - (intOf iv).toNat)
  case atStart => exact ⟨0, by omega, rfl, World.ownsRow_nil _ _ _ _, brefl⟩
  case round =>
    obtain ⟨k, hk, rfl, hown, hbr⟩ := hrel
    have HO := Lib.hid hown
    have HBR := Lib.hid hbr
    have HBr := Lib.hid (bup HB2.out hbr)
    have zr := hbr.size
    by_cases hlt : k < hn
    · obtain ⟨b, off, s, h, a, rfl, -, hbl, hx, k0, k1, k2⟩ := (HS2.out.below hbr).hold hlt
      obtain ⟨x, hfx⟩ := HAF.out _ (List.mem_of_getElem? hx)
      simp only at hfx
      obtain ⟨id, un, is, ma, ra, ev, ix⟩ := x
      have hF : pdF R day ⟨s, h, a⟩ = plL ⟨id, un, is, ma, ra, ev, ix⟩ day ⟨s, h, a⟩ := by unfold pdF; simp only; rw [hfx]
      obtain ⟨M, hM⟩ : ∃ M, plL ⟨id, un, is, ma, ra, ev, ix⟩ day ⟨s, h, a⟩ = M := ⟨_, rfl⟩
      have hMl : M.length ≤ 2 := by rw [← hM]; exact plL_len ..
      have hsn : (H.take (k + 1)).flatMap (pdF R day) = (H.take k).flatMap (pdF R day) ++ M := by rw [take_snocZ hx, List.flatMap_append]; simp [hF, hM]
      have hLl := flat_len (pdF R day) (pdF_len R day) (H.take k)
      have htk : (H.take k).length ≤ k := by rw [List.length_take]; omega
      obtain ⟨L, hL⟩ : ∃ L, (H.take k).flatMap (pdF R day) = L := ⟨_, rfl⟩
      rw [hL] at hLl hsn HO
      have HSN := Lib.hid hsn
      have hLl2 : L.length ≤ 1600 := by omega
      have s0 := keepB hbr HR0.out
      have s1 := keepB hbr HR1.out
      have s2 := keepB hbr HR2.out
      have hne : w.heap.size < wr.heap.size := World.block_lt_of_cell? _ _ s0
      have KF := Lib.hid (ffind_yes P _ _ _ R s id un is ma ra ev ix (wr.alloc (.cells #[.int .i64 s, .int .i64 h, .int .i64 a] 93)) (HR.out.below (bal HBr.out _)) hS hfx)
      obtain ⟨C, hC⟩ : ∃ C, cpN id un is ma ra ev a = C := ⟨_, rfl⟩
      have KP := Lib.hid (fun U => r34coupon_any id un is ma ra ev ix a U)
      rw [hC] at KP
      obtain ⟨bf, hbf⟩ : ∃ b, decide (day ∈ daysL id un is ma ra ev) = b := ⟨_, rfl⟩
      have KL := Lib.hid (fun U => r34falls_any id un is ma ra ev ix day U)
      rw [hbf] at KL
      have hmm := List.mem_of_getElem? hx
      have hid0 := (findS_mem hfx).2
      have hsc := HSEC.out _ (findS_mem hfx).1
      simp only at hid0
      have ha0 := HATP.out.pos _ (by rw [HHE.out]; exact hmm)
      have ha1 : a ≤ 1000000000000 := Int.le_trans (mem_le_out HATP.out.pos (x := ⟨s, h, a⟩) (by rw [HHE.out]; exact hmm)) (HATP.out.out s)
      simp only at ha0
      have hM2 : M = (if 0 < C ∧ bf = true then [⟨day, id, h, 1, C⟩] else []) ++ (if ma = day then [⟨day, id, h, 2, a⟩] else []) := by
        rw [← hM, ← rpF_eq hsc hid0 ha0 ha1]
        unfold rpF
        simp only [hC]
        rw [← hbf]
        simp only [decide_eq_true_eq]
      have HM2 := Lib.hid hM2
      clear hown hbr hx hfx hF hM hsn hL hLl htk hC hbf hmm hid0 hsc ha0 ha1 hM2
      go_wp2_with fail
      refine KF.out.mono ?_
      rintro e w3 ⟨rfl, hb3⟩
      have z3 := hb3.size
      simp only [World.size_alloc] at z3
      have t0 : w3.cell? ⟨wr.heap.size, 0, none⟩ = some (.int .i64 s) := boxed_cell hb3 0 rfl
      have t1 : w3.cell? ⟨wr.heap.size, 1, none⟩ = some (.int .i64 h) := boxed_cell hb3 1 rfl
      have t2 : w3.cell? ⟨wr.heap.size, 2, none⟩ = some (.int .i64 a) := boxed_cell hb3 2 rfl
      have hlt3 : wr.heap.size < w3.heap.size := by omega
      have THB := Lib.hid ((hb3.block wr.heap.size (by simp)).trans (heap_alloc_new wr (.cells #[.int .i64 s, .int .i64 h, .int .i64 a] 93)))
      have hne3 : ¬ wr.heap.size = w3.heap.size := by omega
      have T1 := Lib.hid (keepA (o := .cells #[.int .i64 id, .int .i64 un, .int .i64 is, .int .i64 ma, .int .i64 ra, .int .i64 ev, .bool ix] 41) t1)
      have T2 := Lib.hid (keepA (o := .cells #[.int .i64 id, .int .i64 un, .int .i64 is, .int .i64 ma, .int .i64 ra, .int .i64 ev, .bool ix] 41) t2)
      have TS := Lib.hid (heap_alloc_new w3 (.cells #[.int .i64 id, .int .i64 un, .int .i64 is, .int .i64 ma, .int .i64 ra, .int .i64 ev, .bool ix] 41))
      have HB3 := Lib.hid (bal (bup (bal HBR.out _) hb3) (.cells #[.int .i64 id, .int .i64 un, .int .i64 is, .int .i64 ma, .int .i64 ra, .int .i64 ev, .bool ix] 41))
      have HO3 := Lib.hid ((ownsRow_belowZ (HO.out.alloc _) hb3).alloc (.cells #[.int .i64 id, .int .i64 un, .int .i64 is, .int .i64 ma, .int .i64 ra, .int .i64 ev, .bool ix] 41))
      clear hb3 k0 k1 k2 s0 s1 s2
      go_wp2_with fail
      refine (KP.out _).mono ?_
      rintro e w4 ⟨rfl, hb4⟩
      have z4 := hb4.size
      simp only [World.size_alloc] at z4
      have HB4 := Lib.hid (bup HB3.out hb4)
      have HO4 := Lib.hid (ownsRow_belowZ HO3.out hb4)
      have TH4 := Lib.hid ((hb4.block wr.heap.size (by simp; omega)).trans ((heap_alloc_old _ _ hlt3).trans THB.out))
      have TS4 := Lib.hid ((hb4.block w3.heap.size (by simp)).trans TS.out)
      have hB4z : w2.heap.size ≤ w4.heap.size := HB4.out.size
      clear hb4 t0 t1 t2 T1 T2 TS THB
      have c0 := cell_heap (i := 0) TS4.out rfl
      have c1 := cell_heap (i := 1) TS4.out rfl
      have c2 := cell_heap (i := 2) TS4.out rfl
      have c3 := cell_heap (i := 3) TS4.out rfl
      have c4 := cell_heap (i := 4) TS4.out rfl
      have c5 := cell_heap (i := 5) TS4.out rfl
      have c6 := cell_heap (i := 6) TS4.out rfl
      have hq3w : w3.heap.size < w4.heap.size := World.block_lt_of_cell? _ _ c0
      by_cases hp : 0 < C
      · go_wp2_with fail
        refine (KL.out _).mono ?_
        rintro e w5 ⟨rfl, hb5⟩
        have HB5 := Lib.hid (bup HB4.out hb5)
        have HO5 := Lib.hid (ownsRow_belowZ HO4.out hb5)
        have z5 := hb5.size
        have TH5 := Lib.hid ((hb5.block wr.heap.size (by omega)).trans TH4.out)
        have TS5 := Lib.hid ((hb5.block w3.heap.size hq3w).trans TS4.out)
        clear hb5 c0 c1 c2 c3 c4 c5 c6
        cases bf
        · have HM3 := Lib.hid (show M = (if ma = day then [⟨day, id, h, 2, a⟩] else []) by rw [HM2.out]; simp)
          have c0 := cell_heap (i := 0) TS5.out rfl
          have c3 := cell_heap (i := 3) TS5.out rfl
          have h1c := cell_heap (i := 1) TH5.out rfl
          have h2c := cell_heap (i := 2) TH5.out rfl
          have hO7 := HO5.out
          have hz7 : w2.heap.size ≤ w5.heap.size := HB5.out.size
          have hq3 : w3.heap.size < w5.heap.size := World.block_lt_of_cell? _ _ c0
          have hqr : wr.heap.size < w5.heap.size := World.block_lt_of_cell? _ _ h1c
          by_cases hm : ma = day
          · subst hm
            go_wp2_with (at_builtin; go_must (refine wpList_append_own _ rfl _ _ 78 rfl w2.heap.size 82 i1 (.agg #[.int .i64 0, .int .i64 0, .int .i64 0, .int .i64 0, .int .i64 0]) 5 40 Try.underlying78 hi hz0 hz1 hz2 rfl (by decide) _ (L.length) (flatE encDue L) rfl (hO7.alloc _) ⟨_, 0, none⟩ 1 1 (encDue ⟨ma, id, h, 2, a⟩) rfl rfl (newsDue _ _ (by simp) _ _ _ _ _) (oneDue _) (by unfold maxLen; omega) (by omega) (by simp; omega) ?_); intro v8 w8 hownw8 hgw8 _)
            have HB8 := Lib.hid ((bal HB5.out _).grown hgw8 (by simp; omega) (fun q hq => (hO7.lt q hq).1))
            have HW8 := Lib.hid hownw8
            have HM5 := Lib.hid (show M = [] ++ [⟨ma, id, h, 2, a⟩] by rw [HM3.out] <;> simp)
            clear hownw8 hgw8 hO7
            go_wp2
            go_roundw
            case rel => exact ⟨k + 1, by omega, by go_num, by rw [HSN.out, HM5.out]; simpa [flatE, Nat.add_assoc, List.append_assoc] using HW8.out, HB8.out⟩
            case measure => simp [intOf]; omega
          · have g3 : (ma == day) = false := by simpa using hm
            have HM4 := Lib.hid (show M = [] by rw [HM3.out, if_neg hm] <;> simp)
            clear hm
            go_wp2
            go_roundw
            case rel => exact ⟨k + 1, by omega, by go_num, by rw [HSN.out, HM4.out]; simpa [flatE, Nat.add_assoc, List.append_assoc] using HO5.out, HB5.out⟩
            case measure => simp [intOf]; omega
        · have HM3 := Lib.hid (show M = [⟨day, id, h, 1, C⟩] ++ (if ma = day then [⟨day, id, h, 2, a⟩] else []) by rw [HM2.out, if_pos ⟨hp, rfl⟩])
          have c0 := cell_heap (i := 0) TS5.out rfl
          have h1c := cell_heap (i := 1) TH5.out rfl
          have hO6 := HO5.out
          have hz6 : w2.heap.size ≤ w5.heap.size := HB5.out.size
          go_upto_region 14 with (at_builtin; go_must (refine wpList_append_own _ rfl _ _ 78 rfl w2.heap.size 82 i1 (.agg #[.int .i64 0, .int .i64 0, .int .i64 0, .int .i64 0, .int .i64 0]) 5 40 Try.underlying78 hi hz0 hz1 hz2 rfl (by decide) _ (L.length) (flatE encDue L) rfl (hO6.alloc _) ⟨_, 0, none⟩ 1 1 (encDue ⟨day, id, h, 1, C⟩) rfl rfl (newsDue _ _ (by simp) _ _ _ _ _) (oneDue _) (by unfold maxLen; omega) (by omega) (by simp; omega) ?_); intro v6 w6 hownw6 hgw6 _)
          have HB6 := Lib.hid ((bal HB5.out _).grown hgw6 (by simp; omega) (fun q hq => (hO6.lt q hq).1))
          have TS6 := Lib.hid ((hgw6.block w3.heap.size (by simp; omega) (fun e => by have h9 := HO.out.lt w3.heap.size (by first | exact e | exact e.symm); omega)).trans ((heap_alloc_old _ _ (by omega)).trans TS5.out))
          have TH6 := Lib.hid ((hgw6.block wr.heap.size (by simp; omega) (fun e => by have h9 := HO.out.lt wr.heap.size (by first | exact e | exact e.symm); omega)).trans ((heap_alloc_old _ _ (by omega)).trans TH5.out))
          have HO6 := Lib.hid hownw6
          clear hownw6 hgw6 hO6 c0 h1c
          have c0 := cell_heap (i := 0) TS6.out rfl
          have c3 := cell_heap (i := 3) TS6.out rfl
          have h1c := cell_heap (i := 1) TH6.out rfl
          have h2c := cell_heap (i := 2) TH6.out rfl
          have hO7 := HO6.out
          have hz7 : w2.heap.size ≤ w6.heap.size := HB6.out.size
          have hq3 : w3.heap.size < w6.heap.size := World.block_lt_of_cell? _ _ c0
          have hqr : wr.heap.size < w6.heap.size := World.block_lt_of_cell? _ _ h1c
          by_cases hm : ma = day
          · subst hm
            go_wp2_with (at_builtin; go_must (refine wpList_append_own _ rfl _ _ 78 rfl w2.heap.size 82 i1 (.agg #[.int .i64 0, .int .i64 0, .int .i64 0, .int .i64 0, .int .i64 0]) 5 40 Try.underlying78 hi hz0 hz1 hz2 rfl (by decide) _ (_) (_) rfl (hO7.alloc _) ⟨_, 0, none⟩ 1 1 (encDue ⟨ma, id, h, 2, a⟩) rfl rfl (newsDue _ _ (by simp) _ _ _ _ _) (oneDue _) (by unfold maxLen; omega) (by omega) (by simp; omega) ?_); intro v8 w8 hownw8 hgw8 _)
            have HB8 := Lib.hid ((bal HB6.out _).grown hgw8 (by simp; omega) (fun q hq => (hO7.lt q hq).1))
            have HW8 := Lib.hid hownw8
            have HM5 := Lib.hid (show M = [⟨ma, id, h, 1, C⟩] ++ [⟨ma, id, h, 2, a⟩] by rw [HM3.out] <;> simp)
            clear hownw8 hgw8 hO7
            go_wp2
            go_roundw
            case rel => exact ⟨k + 1, by omega, by go_num, by rw [HSN.out, HM5.out]; simpa [flatE, Nat.add_assoc, List.append_assoc] using HW8.out, HB8.out⟩
            case measure => simp [intOf]; omega
          · have g3 : (ma == day) = false := by simpa using hm
            have HM4 := Lib.hid (show M = [⟨day, id, h, 1, C⟩] by rw [HM3.out, if_neg hm] <;> simp)
            clear hm
            go_wp2
            go_roundw
            case rel => exact ⟨k + 1, by omega, by go_num, by rw [HSN.out, HM4.out]; simpa [flatE, Nat.add_assoc, List.append_assoc] using HO6.out, HB6.out⟩
            case measure => simp [intOf]; omega
      · have HM3 := Lib.hid (show M = (if ma = day then [⟨day, id, h, 2, a⟩] else []) by rw [HM2.out, if_neg (fun q => hp q.1)]; simp)
        clear c0 c1 c2 c3 c4 c5 c6
        have c0 := cell_heap (i := 0) TS4.out rfl
        have c3 := cell_heap (i := 3) TS4.out rfl
        have h1c := cell_heap (i := 1) TH4.out rfl
        have h2c := cell_heap (i := 2) TH4.out rfl
        have hO7 := HO4.out
        have hz7 : w2.heap.size ≤ w4.heap.size := HB4.out.size
        have hq3 : w3.heap.size < w4.heap.size := World.block_lt_of_cell? _ _ c0
        have hqr : wr.heap.size < w4.heap.size := World.block_lt_of_cell? _ _ h1c
        by_cases hm : ma = day
        · subst hm
          go_wp2_with (at_builtin; go_must (refine wpList_append_own _ rfl _ _ 78 rfl w2.heap.size 82 i1 (.agg #[.int .i64 0, .int .i64 0, .int .i64 0, .int .i64 0, .int .i64 0]) 5 40 Try.underlying78 hi hz0 hz1 hz2 rfl (by decide) _ (L.length) (flatE encDue L) rfl (hO7.alloc _) ⟨_, 0, none⟩ 1 1 (encDue ⟨ma, id, h, 2, a⟩) rfl rfl (newsDue _ _ (by simp) _ _ _ _ _) (oneDue _) (by unfold maxLen; omega) (by omega) (by simp; omega) ?_); intro v8 w8 hownw8 hgw8 _)
          have HB8 := Lib.hid ((bal HB4.out _).grown hgw8 (by simp; omega) (fun q hq => (hO7.lt q hq).1))
          have HW8 := Lib.hid hownw8
          have HM5 := Lib.hid (show M = [] ++ [⟨ma, id, h, 2, a⟩] by rw [HM3.out] <;> simp)
          clear hownw8 hgw8 hO7
          go_wp2
          go_roundw
          case rel => exact ⟨k + 1, by omega, by go_num, by rw [HSN.out, HM5.out]; simpa [flatE, Nat.add_assoc, List.append_assoc] using HW8.out, HB8.out⟩
          case measure => simp [intOf]; omega
        · have g3 : (ma == day) = false := by simpa using hm
          have HM4 := Lib.hid (show M = [] by rw [HM3.out, if_neg hm] <;> simp)
          clear hm
          go_wp2
          go_roundw
          case rel => exact ⟨k + 1, by omega, by go_num, by rw [HSN.out, HM4.out]; simpa [flatE, Nat.add_assoc, List.append_assoc] using HO4.out, HB4.out⟩
          case measure => simp [intOf]; omega
    · have hkn : k = hn := by omega
      subst hkn
      have hta : H.take k = H := take_all (by have := HHN.out; omega)
      rw [hta] at HO
      have HO2 := Lib.hid (ownsRow_baseZ HO.out (b' := w.heap.size) hz2')
      obtain ⟨fo, fc, rfl⟩ := own_slice0' hown
      clear hown hta hbr
      go_wp2
      go_ret2
      exact ⟨_, rfl, HO2.out, HBr.out⟩
end Go.Proofs.Ytmhglabcnimegaa
