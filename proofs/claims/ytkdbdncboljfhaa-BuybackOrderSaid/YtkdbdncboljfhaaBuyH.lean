/- Buyback: Hold. Printed by wip/gen/buyh.py. -/
import Derived.Test.YtkdbdncboljfhaaBuyHd
import Derived.Test.YtkdbdncboljfhaaFlowP
import Derived.BigQuiet
namespace Go.Proofs.Ytkdbdncboljfhaa
open Go.RowKit
set_option linter.unusedVariables false
set_option linter.unusedSimpArgs false
theorem bcellZ {w w' : World} {g o : Nat} (h : w'.heap[g]? = w.heap[g]?) : w'.cell? ⟨g, o, none⟩ = w.cell? ⟨g, o, none⟩ := by
  unfold World.cell?
  simp only [h]
set_option maxHeartbeats 16000000 in
set_option maxRecDepth 100000 in
theorem bhold_any (P : Nat → Prop) (v : Value) (L : List Tdr) (am most : Int) (w : World) (hS : Sl 4 encTdr P w v L) (hok : ∀ x ∈ L, TdrOk x) (hd : KeysT L) (hl : L.length ≤ 12) (a0 : 1000 ≤ am) (a1 : am ≤ 1000000000) (a2 : am % 1000 = 0) (m0 : 1 ≤ most) (m1 : most ≤ 200000) :
    Calls Try.prog 9 #[v, .int .i64 am, .int .i64 most] w fun e w' => ∃ av, e = .returned (.tuple #[.agg #[.int .i64 (bkC L am most), .int .i64 (bkS L am most), av], .int .i64 0]) ∧ w'.ownsRow w.heap.size 61 4 av (bkA L am most).length (flatE encAwd (bkA L am most)) ∧ Below w.heap.size w w' := by
  obtain ⟨la, ln, lc, rfl, hln, -, -⟩ := hS.shape
  have KC := Lib.hid (fun (U : World) (hU : Below w.heap.size w U) => tcheck_any P _ L U (hS.below hU) hok hd (by omega))
  have KL := Lib.hid (fun U => lots_any am U a0 a1 a2)
  have hmo : inB most 1 200000 = true := inB_iff.2 ⟨m0, m1⟩
  have KO := Lib.hid (fun (U : World) (hU : Below w.heap.size w U) => ordered_any P _ L U (hS.below hU) (by omega))
  have egM : ∀ args w, (callFunc 19 args).run Try.prog w = .ok (.enter 19 args) w := enters_of Try.func19 (by kernel_rfl) rfl
  have egQ : ∀ args w, (callFunc 21 args).run Try.prog w = .ok (.enter 21 args) w := enters_of Try.func21 (by kernel_rfl) rfl
  have egW : ∀ args w, (callFunc 26 args).run Try.prog w = .ok (.enter 26 args) w := enters_of Try.func26 (by kernel_rfl) rfl
  have hSl : (srT L).length = ln := by unfold srT; rw [srt_length]; exact hln
  have HP := Lib.hid (show ∀ x ∈ bkP L most, TdrOk x from fun x hx => hok x ((srt_mem _ _).1 (List.mem_filter.1 ((srt_mem _ _).1 hx)).1))
  have hPl : (bkP L most).length ≤ 12 := by
    unfold bkP; rw [srt_length]
    exact Nat.le_trans (List.length_filter_le _ _) (by omega)
  have KD := Lib.hid (fun (U : World) (u : Value) (ho : U.ownsRow (w.heap.size + 2) 28 4 u (srT L).length (flatE encTdr (srT L))) (hB : U.cell? ⟨w.heap.size, 0, none⟩ = some (.int .i64 most)) =>
    dlfTdr_any 19 #[.pointer (some ⟨w.heap.size, 0, none⟩)] (fun x => decide (most < x.p)) (fun _ => True) (w.heap.size + 2) u (srT L) U egM (fun W hW x _ => tmost_any w.heap.size most x.h x.n x.p x.a W (hW.cell hB (fun e => by have h : w.heap.size + 2 ≤ w.heap.size := (ho.lt _ e.symm).1; omega))) (fun _ _ => trivial) ho (by omega))
  have KQ := Lib.hid (fun (U : World) (u : Value) (hz : w.heap.size + 2 ≤ U.heap.size) (ho : U.ownsRow (w.heap.size + 2) 28 4 u ((srT L).filter fun x => !decide (most < x.p)).length (flatE encTdr ((srT L).filter fun x => !decide (most < x.p)))) =>
    sortTdr_own 21 #[] cmpQ (fun _ => True) (w.heap.size + 2) u ((srT L).filter fun x => !decide (most < x.p)) U egQ (fun W _ x y _ _ => qcompare_any x.h x.n x.p x.a y.h y.n y.p y.a W) cmpQ_wk (fun _ _ => trivial) hz ho (Nat.le_trans (List.length_filter_le _ _) (by omega)))
  have hPlen : ((srT L).filter fun x => !decide (most < x.p)).length = (bkP L most).length := by unfold bkP; rw [srt_length]
  have hPdef : srt (ltz cmpQ) ((srT L).filter fun x => !decide (most < x.p)) = bkP L most := rfl
  unfold bkC bkS bkA bkF
  rw [hPlen, hPdef] at KQ
  rw [hPlen] at KD
  obtain ⟨Q, hQ⟩ : ∃ Q, bkP L most = Q := ⟨_, rfl⟩
  rw [hQ] at HP hPl KQ KD ⊢
  obtain ⟨S, hSS⟩ : ∃ S, srT L = S := ⟨_, rfl⟩
  rw [hSS] at KO KD KQ hSl
  have HSL := Lib.hid hSl
  have hln12 : ln ≤ 12 := by omega
  clear hS hok hd hl hln egM egQ hPlen hPdef hQ hSS hSl
  go_enter Try.func9, Try.ntmps9
  go_wp2_with fail
  refine (KC.out _ (bal (bal brefl _) _)).mono ?_
  rintro e w1 ⟨rfl, hb1⟩
  have z1 := hb1.size
  simp only [World.size_alloc] at z1
  have b0 : w1.cell? ⟨w.heap.size, 0, none⟩ = some (.int .i64 most) := keepB hb1 (by go_simp)
  have X1 := (hb1.block (w.heap.size + 1) (by simp)).trans (show _ = some (.cells #[.int .i64 0, .int .i64 0, .slice none 0 0] 33 (0, 0)) by first | exact heap_alloc_new _ _ | (have q := heap_alloc_new (w.alloc (.cells #[.int .i64 most] 3 (0, 0))) (.cells #[.int .i64 0, .int .i64 0, .slice none 0 0] 33 (0, 0)); simpa using q))
  have HB1 := Lib.hid (bup (bal (bal brefl _) _) hb1)
  have HX1 := Lib.hid X1
  clear hb1 X1
  have hbz : w.heap.size < w1.heap.size := by omega
  go_wp2_with fail
  refine (KL.out _).mono ?_
  rintro e w2 ⟨rfl, rfl⟩
  go_wp2_with fail
  refine (amongY_any _ _ _ _).mono ?_
  rw [hmo]
  rintro e w2 ⟨rfl, rfl⟩
  go_wp2_with fail
  refine (KO.out _ HB1.out).mono ?_
  rintro e w3 ⟨v3, rfl, ho3, hb3⟩
  replace b0 := keepB hb3 b0
  have z3 := hb3.size
  have HX3 := Lib.hid ((hb3.block _ (by omega)).trans HX1.out)
  have HB3 := Lib.hid (bup HB1.out hb3)
  have HO3 := Lib.hid (ownsRow_baseZ ho3 z1)
  obtain ⟨oa3, oc3, rfl⟩ := own_sl ho3
  clear ho3 hb3 HX1 HB1
  go_wp2_with fail
  refine (KD.out _ _ HO3.out b0).mono ?_
  rintro e w4 ⟨v4, rfl, ho4, hg4⟩
  have hne3 : ∀ b, b < w.heap.size + 2 → some b ≠ (Value.slice oa3 S.length oc3).ownBlock := fun b hb e => by have := (HO3.out.lt b e.symm).1; omega
  have z4 := hg4.size
  have HX4 := Lib.hid ((hg4.block _ (by omega) (hne3 _ (by omega))).trans HX3.out)
  have HB4 := Lib.hid (HB3.out.grown hg4 (by have := HB3.out.size; omega) (fun q hq => by have := (HO3.out.lt q hq).1; omega))
  have HO4 := Lib.hid ho4
  obtain ⟨oa4, oc4, rfl⟩ := own_sl ho4
  clear ho4 hg4 HX3 HB3 HO3 hne3 KD b0
  go_wp2_with fail
  refine (KQ.out _ _ (by omega) HO4.out).mono ?_
  rintro e w5 ⟨rfl, ho5, hb5⟩
  have z5 := hb5.size
  have HX5 := Lib.hid ((hb5.block _ (by omega)).trans HX4.out)
  have HB5 := Lib.hid (HB4.out.trans (hb5.mono (by omega)))
  have hS5 : Sl 4 encTdr (fun b => w.heap.size + 2 ≤ b ∧ b < w5.heap.size) w5 _ Q := (Sl.own (P := fun b => w.heap.size + 2 ≤ b) encTdr_len ho5 rfl (fun _ h => h)).mono fun b h hlt => ⟨h, hlt⟩
  have HS5 := Lib.hid hS5
  obtain ⟨n, hn⟩ : ∃ n, Q.length = n := ⟨_, rfl⟩
  rw [hn] at HS5 hPl ⊢
  have HN := Lib.hid hn
  clear ho5 hb5 hS5 hn HX4 HB4 HO4 KQ KC KL KO
  go_upto_region 9 with fail
  have KR := Lib.hid (rkT_ok (P := Q))
  obtain ⟨j1, ji, jz0, jz1, jz2⟩ := info_parts infoRk
  go_wp2
  go_loopw [40, 9] (fun iv ov wr => ∃ (k : Nat) (us : List Value), k ≤ n ∧ iv = .int .i64 k ∧ RkAt wr w5.heap.size ov us (rkT Q k) ∧ Below w5.heap.size w5 wr) (fun iv _ _ => n - (intOf iv).toNat)
  case atStart => exact ⟨0, [], by omega, rfl, RkAt.nil, brefl⟩
  case round =>
    obtain ⟨k, us, hk, rfl, hrk, hbr⟩ := hrel
    have zr := hbr.size
    by_cases hlt : k < n
    · obtain ⟨bb, off, x0, x1, x2, x3, rfl, -, hbb, hx, t0, t1, t2, t3⟩ := (HS5.out.below hbr).tdr hlt
      have hkz : (k : Int) < (n : Int) := by omega
      have hax := HP.out _ (List.mem_of_getElem? hx)
      have hxa := hax.a0
      have hxb := hax.a1
      simp only at hxa hxb
      have hdv : x3.tdiv 1000 = x3 / 1000 := Int.tdiv_eq_ediv_of_nonneg (by omega)
      obtain ⟨X, hX⟩ : ∃ X, x3 / 1000 = X := ⟨_, rfl⟩
      rw [hX] at hdv
      have hX0 : 0 ≤ X ∧ X ≤ 1000000 := by omega
      have HXX := Lib.hid hX
      have HXW := Lib.hid (wzC X (by omega))
      have huk : us.length = (rkT Q k).length := hrk.2.1.1
      have hul : us.length ≤ 12 := by have := (KR.out k (by have := HN.out; omega)).n; omega
      obtain ⟨m, hm⟩ : ∃ m, us.length = m := ⟨_, rfl⟩
      have hown := hrk.1
      rw [hm] at hown hul
      obtain ⟨ra, rc, rfl⟩ := own_sl hown
      have HOW := Lib.hid hown
      have HM := Lib.hid hm
      have HRK := Lib.hid hrk
      obtain ⟨W1, hW1⟩ : ∃ W, W = wr.alloc (.cells #[.int .i64 x0, .int .i64 x1, .int .i64 x2, .int .i64 x3] 28 (0, 0)) := ⟨_, rfl⟩
      have hb1 : Below wr.heap.size wr W1 := by rw [hW1]; exact bal brefl _
      have B1 : W1.heap[wr.heap.size]? = some (.cells #[.int .i64 x0, .int .i64 x1, .int .i64 x2, .int .i64 x3] 28 (0, 0)) := by rw [hW1]; exact heap_alloc_new wr _
      have d2 : W1.cell? ⟨wr.heap.size, 2, none⟩ = some (.int .i64 x2) := cell_heap B1 rfl
      have z1W : wr.heap.size < W1.heap.size := (Array.getElem?_eq_some_iff.1 B1).1
      have HW1 := Lib.hid hW1
      have HBX := Lib.hid B1
      have HB1 := Lib.hid hb1
      have HBR := Lib.hid hbr
      have HQX := Lib.hid hx
      clear hax hX huk hm hown hrk hW1 hb1 B1
      go_upto_region 12 with fail
      rw [← HW1.out]
      clear t0 t1 t2 t3
      by_cases hk0 : k = 0
      · subst hk0
        have HNW := Lib.hid (rkT_new HQX.out (newB_zero Q))
        clear hbr
        go_quiet (fail)
        go_upto_region 13 with fail
        generalize hW2 : World.drewN _ _ = W2
        have hb2 : Below W1.heap.size W1 W2 := by rw [← hW2]; exact bdrN brefl
        have hb02 : Below wr.heap.size wr W2 := bup HB1.out hb2
        have z2 := hb02.size
        have HTB2 := Lib.hid ((hb2.block _ z1W).trans HBX.out)
        have HOW2 := Lib.hid (ownsRow_belowZ HOW.out hb02)
        have HRK2 := Lib.hid (HRK.out.below hb02)
        have HBR2 := Lib.hid (bup HBR.out hb02)
        have zW2 : wr.heap.size < W2.heap.size := by have := hb2.size; omega
        clear hW2 hb2 hb02 d2
        go_upto_region 14 with (at_builtin; go_must (refine wpList_append_own_at _ rfl _ _ 53 rfl w5.heap.size 55 j1 (.agg #[.slice none 0 0]) 1 24 Try.underlying53 ji jz0 jz1 jz2 rfl (by decide) _ _ _ rfl (HOW2.out.alloc _) ⟨_, 0, none⟩ 1 1 (encV (.slice none 0 0)) rfl rfl (newsL _ _ _) (by intro u hu; simp only [encV, List.mem_singleton] at hu; subst hu; rfl) (by unfold maxLen; omega) (by omega) (by simp; omega) ?_); intro v' w9 hown' hgrow _ hloc)
        have hst0 : RkSt w9 w5.heap.size v' us (.slice none 0 0) (rkT Q 0) [] := RkSt.fresh (HRK2.out.2.1.below (bal brefl _)) hgrow (by rw [HM.out]; exact hown') hloc
        have HTB := Lib.hid ((hgrow.block wr.heap.size (by simp; omega) (fun e => by have := (HOW.out.lt _ e.symm).2; omega)).trans ((heap_alloc_old W2 _ zW2).trans HTB2.out))
        have HB9 := Lib.hid (show Below w5.heap.size w5 w9 from (bal HBR2.out _).grown hgrow (by simp; omega) (fun q hq => (HOW.out.lt q hq).1))
        obtain ⟨ra', rc', rfl⟩ := own_sl hown'
        obtain ⟨q, hqm⟩ : ∃ q, m = q := ⟨_, rfl⟩
        subst hqm
        obtain ⟨vs, u, Rs, r, hst, hvq, hkk⟩ : ∃ vs u Rs r, RkSt w9 w5.heap.size (.slice ra' (m + 1) rc') vs u Rs r ∧ vs.length = m ∧ rkT Q (0 + 1) = Rs ++ [r ++ [X]] := ⟨us, _, _, _, hst0, HM.out, by rw [HNW.out, HXX.out]; rfl⟩
        obtain ⟨g, rfl⟩ := hst.lit
        clear hown' hgrow hloc hst0 HTB2 HOW2 HRK2 HBR2 HNW
        obtain ⟨cur, hcur, hcq, hbg⟩ := hst.cellq hvq
        have hlst := hst.last
        obtain ⟨rl, hrl⟩ : ∃ rl, r.length = rl := ⟨_, rfl⟩
        have hrl60 : rl ≤ 1000 := by
          have h1 := (KR.out (0 + 1) (by have := HN.out; omega)).l (r ++ [X]) (by rw [hkk]; simp)
          rw [List.length_append, hrl] at h1; omega
        rw [hrl] at hlst
        obtain ⟨ua, uc, rfl⟩ := own_sl hlst
        have hgz : g < w9.heap.size := (Array.getElem?_eq_some_iff.1 hcur).1
        have htz : wr.heap.size < w9.heap.size := (Array.getElem?_eq_some_iff.1 HTB.out).1
        have hgt : ¬ g = wr.heap.size := by
          intro e
          have h1 := hcur
          rw [e, HTB.out] at h1
          simp at h1
        have dt3 : w9.cell? ⟨wr.heap.size, 3, none⟩ = some (.int .i64 x3) := cell_heap HTB.out rfl
        have HST := Lib.hid hst
        have HCU := Lib.hid hcur
        have HCQ := Lib.hid hcq
        have HVQ := Lib.hid hvq
        have HKK := Lib.hid hkk
        have HLS := Lib.hid hlst
        have HRL := Lib.hid hrl
        have HWQ := Lib.hid (wzC (m : Int) (by omega))
        have hq1 : (m : Int) < ((m + 1 : Nat) : Int) := by omega
        have hq2 : (m : Int) < (m : Int) + 1 := by omega
        have hq0 : 0 ≤ (m : Int) := by omega
        clear hst hcur hcq hvq hkk hlst hrl
        obtain ⟨hwq, hiq⟩ := HWQ.out
        go_upto_region 15 with fail
        clear hwq hiq
        refine wp_region_any (by kernel_rfl) ?_
        change wpAny _ _ _ _ _ _ _ (World.drew _)
        refine vf_anyP_inv (J := fun listed a' w' => ∃ t67 t68 t69 t70 t71 t72 t73 t74 t75 t76 t77 t78 : Value, a' = { tmps := #[Value.slice (some ⟨bb, off, none⟩) n oc4, Value.int IntKind.i64 am, Value.int IntKind.i64 most, undef, undef, Value.pointer (some ⟨w.heap.size, 0, none⟩), Value.pointer (some ⟨w.heap.size + 1, 0, none⟩), Value.int IntKind.i64 0, Value.int IntKind.i64 0, Value.slice (some ⟨g, 0, none⟩) (m + 1) rc', Value.int IntKind.i64 0, Value.pointer (some ⟨wr.heap.size, 0, none⟩), Value.pointer (some ⟨g, m, none⟩), undef, undef, undef, undef, Value.slice la ln lc, Value.int IntKind.i64 0, Value.int IntKind.i64 0, Value.bool false, undef, undef, Value.int IntKind.i64 am, Value.bool true, Value.bool false, Value.bool false, Value.int IntKind.i64 most, Value.bool true, Value.bool false, Value.bool false, undef, Value.slice la ln lc, Value.slice oa3 S.length oc3, Value.func (Fn.func 19) #[] #[Value.pointer (some ⟨w.heap.size, 0, none⟩)], Value.slice (some ⟨bb, off, none⟩) n oc4, Value.slice (some ⟨bb, off, none⟩) n oc4, Value.tuple #[], Value.slice (some ⟨bb, off, none⟩) n oc4, Value.int IntKind.i64 ↑n, Value.int IntKind.i64 0, Value.bool true, Value.int IntKind.i64 0, Value.pointer (some ⟨bb, off, none⟩), Value.agg #[Value.int IntKind.i64 x0, Value.int IntKind.i64 x1, Value.int IntKind.i64 x2, Value.int IntKind.i64 x3], Value.int IntKind.i64 0, Value.bool true, Value.bool true, undef, undef, undef, undef, undef, undef, undef, undef, undef, Value.bool true, Value.slice ra m rc, Value.agg #[Value.slice none 0 0], Value.slice (some ⟨W2.heap.size, 0, none⟩) 1 1, Value.slice (some ⟨g, 0, none⟩) (m + 1) rc', Value.slice (some ⟨g, 0, none⟩) (m + 1) rc', Value.slice (some ⟨g, 0, none⟩) (m + 1) rc', Value.int IntKind.i64 (↑m + 1), Value.int IntKind.i64 ↑m, Value.pointer (some ⟨g, m, none⟩), t67, t68, t69, t70, t71, t72, t73, t74, t75, t76, t77, t78, u79, undef, undef, undef, undef, undef, undef, undef, undef, undef, undef, undef, undef, undef, undef, undef, undef, undef, undef, undef, undef, undef, undef, undef, undef, undef, undef, undef, undef, undef, undef, undef, undef, undef, undef, undef, undef, undef, undef, undef, undef, undef, undef, undef, undef, undef], defers := [] } ∧ listed.size = 13 ∧ (listed.getD 0 false = true → t67 = .pointer (some ⟨g, m, none⟩)) ∧ (listed.getD 1 false = true → t68 = .pointer (some ⟨g, m, none⟩)) ∧ (listed.getD 2 false = true → t69 = .pointer (some ⟨g, m, none⟩)) ∧ (listed.getD 3 false = true → t70 = .pointer (some ⟨g, m, none⟩)) ∧ (listed.getD 4 false = true → t71 = .slice ua rl uc) ∧ (listed.getD 5 false = true → t72 = .pointer (some ⟨wr.heap.size, 3, none⟩)) ∧ (listed.getD 6 false = true → t73 = .int .i64 x3) ∧ (listed.getD 7 false = true → t74 = .int .i64 X) ∧ (listed.getD 10 false = true → t77 = .pointer (some ⟨g, m, none⟩)) ∧ (listed.getD 11 false = true → t78 = .pointer (some ⟨g, m, none⟩)) ∧ (listed.getD 2 false = true → listed.getD 1 false = true) ∧ (listed.getD 3 false = true → listed.getD 2 false = true) ∧ (listed.getD 4 false = true → listed.getD 3 false = true) ∧ (listed.getD 6 false = true → listed.getD 5 false = true) ∧ (listed.getD 7 false = true → listed.getD 6 false = true) ∧ (listed.getD 8 false = true → listed.getD 7 false = true) ∧ (listed.getD 9 false = true → listed.getD 4 false = true ∧ listed.getD 8 false = true) ∧ (listed.getD 10 false = true → listed.getD 0 false = true) ∧ (listed.getD 11 false = true → listed.getD 10 false = true) ∧ (listed.getD 12 false = true → listed.getD 9 false = true ∧ listed.getD 11 false = true) ∧ D15 w9 g m cur w5.heap.size (.slice ua rl uc) r X (listed.getD 8 false) (listed.getD 9 false) (listed.getD 12 false) t75 t76 w') ?step ?fin _ _ _ _ ⟨_, _, _, _, _, _, _, _, _, _, _, _, rfl, rfl, fun h => by simp at h, fun h => by simp at h, fun h => by simp at h, fun h => by simp at h, fun h => by simp at h, fun h => by simp at h, fun h => by simp at h, fun h => by simp at h, fun h => by simp at h, fun h => by simp at h, fun h => by simp at h, fun h => by simp at h, fun h => by simp at h, fun h => by simp at h, fun h => by simp at h, fun h => by simp at h, fun h => by simp at h, fun h => by simp at h, fun h => by simp at h, fun h => by simp at h, D15.start HCU.out (bdr brefl)⟩ (by decide)
        case step =>
          rintro listed a' w' ⟨t67, t68, t69, t70, t71, t72, t73, t74, t75, t76, t77, t78, rfl, hsz, f0, f1, f2, f3, f4, f5, f6, f7, f10, f11, o2, o3, o4, o6, o7, o8, o9, o10, o11, o12, hvb⟩ i hi K hK
          obtain ⟨hni, o, ho, hdep⟩ := mem_ready.1 hi
          have hin : i < 13 := (Array.getElem?_eq_some_iff.1 ho).1
          have hself := vf_listed_self hni
          have hno := vf_listed_no hni
          rcases (show i = 0 ∨ i = 1 ∨ i = 2 ∨ i = 3 ∨ i = 4 ∨ i = 5 ∨ i = 6 ∨ i = 7 ∨ i = 8 ∨ i = 9 ∨ i = 10 ∨ i = 11 ∨ i = 12 by omega) with rfl | rfl | rfl | rfl | rfl | rfl | rfl | rfl | rfl | rfl | rfl | rfl | rfl
          · injection ho with ho
            subst ho
            have g8 : (listed.setIfInBounds 0 true).getD 8 false = listed.getD 8 false := getD_set_ne _ (by decide)
            have g9 : (listed.setIfInBounds 0 true).getD 9 false = listed.getD 9 false := getD_set_ne _ (by decide)
            have g12 : (listed.setIfInBounds 0 true).getD 12 false = listed.getD 12 false := getD_set_ne _ (by decide)
            have HVB := Lib.hid hvb
            clear hi hdep hvb
            refine vf_wpOpP_of rfl rfl ?_
            go_simp
            exact hK _ _ ⟨(.pointer (some ⟨g, m, none⟩)), _, _, _, _, _, _, _, _, _, _, _, rfl, by simpa using hsz, fun _ => rfl, fun h => by first | exact f1 (vf_listed_ne (by decide) h) | rfl, fun h => by first | exact f2 (vf_listed_ne (by decide) h) | rfl, fun h => by first | exact f3 (vf_listed_ne (by decide) h) | rfl, fun h => by first | exact f4 (vf_listed_ne (by decide) h) | rfl, fun h => by first | exact f5 (vf_listed_ne (by decide) h) | rfl, fun h => by first | exact f6 (vf_listed_ne (by decide) h) | rfl, fun h => by first | exact f7 (vf_listed_ne (by decide) h) | rfl, fun h => by first | exact f10 (vf_listed_ne (by decide) h) | rfl, fun h => by first | exact f11 (vf_listed_ne (by decide) h) | rfl, fun h => vf_listed_keep (o2 (vf_listed_ne (by decide) h)), fun h => vf_listed_keep (o3 (vf_listed_ne (by decide) h)), fun h => vf_listed_keep (o4 (vf_listed_ne (by decide) h)), fun h => vf_listed_keep (o6 (vf_listed_ne (by decide) h)), fun h => vf_listed_keep (o7 (vf_listed_ne (by decide) h)), fun h => vf_listed_keep (o8 (vf_listed_ne (by decide) h)), fun h => by have q := o9 (vf_listed_ne (by decide) h); exact ⟨vf_listed_keep q.1, vf_listed_keep q.2⟩, fun h => vf_listed_keep (o10 (vf_listed_ne (by decide) h)), fun h => vf_listed_keep (o11 (vf_listed_ne (by decide) h)), fun h => by have q := o12 (vf_listed_ne (by decide) h); exact ⟨vf_listed_keep q.1, vf_listed_keep q.2⟩, by rw [g8, g9, g12]; exact HVB.out⟩
          · injection ho with ho
            subst ho
            have g8 : (listed.setIfInBounds 1 true).getD 8 false = listed.getD 8 false := getD_set_ne _ (by decide)
            have g9 : (listed.setIfInBounds 1 true).getD 9 false = listed.getD 9 false := getD_set_ne _ (by decide)
            have g12 : (listed.setIfInBounds 1 true).getD 12 false = listed.getD 12 false := getD_set_ne _ (by decide)
            have HVB := Lib.hid hvb
            clear hi hdep hvb
            refine vf_wpOpP_of rfl rfl ?_
            go_simp
            exact hK _ _ ⟨_, (.pointer (some ⟨g, m, none⟩)), _, _, _, _, _, _, _, _, _, _, rfl, by simpa using hsz, fun h => by first | exact f0 (vf_listed_ne (by decide) h) | rfl, fun _ => rfl, fun h => by first | exact f2 (vf_listed_ne (by decide) h) | rfl, fun h => by first | exact f3 (vf_listed_ne (by decide) h) | rfl, fun h => by first | exact f4 (vf_listed_ne (by decide) h) | rfl, fun h => by first | exact f5 (vf_listed_ne (by decide) h) | rfl, fun h => by first | exact f6 (vf_listed_ne (by decide) h) | rfl, fun h => by first | exact f7 (vf_listed_ne (by decide) h) | rfl, fun h => by first | exact f10 (vf_listed_ne (by decide) h) | rfl, fun h => by first | exact f11 (vf_listed_ne (by decide) h) | rfl, fun h => vf_listed_keep (o2 (vf_listed_ne (by decide) h)), fun h => vf_listed_keep (o3 (vf_listed_ne (by decide) h)), fun h => vf_listed_keep (o4 (vf_listed_ne (by decide) h)), fun h => vf_listed_keep (o6 (vf_listed_ne (by decide) h)), fun h => vf_listed_keep (o7 (vf_listed_ne (by decide) h)), fun h => vf_listed_keep (o8 (vf_listed_ne (by decide) h)), fun h => by have q := o9 (vf_listed_ne (by decide) h); exact ⟨vf_listed_keep q.1, vf_listed_keep q.2⟩, fun h => vf_listed_keep (o10 (vf_listed_ne (by decide) h)), fun h => vf_listed_keep (o11 (vf_listed_ne (by decide) h)), fun h => by have q := o12 (vf_listed_ne (by decide) h); exact ⟨vf_listed_keep q.1, vf_listed_keep q.2⟩, by rw [g8, g9, g12]; exact HVB.out⟩
          · injection ho with ho
            subst ho
            have d1 := hdep ⟨1, .data⟩ (by simp) rfl
            have g8 : (listed.setIfInBounds 2 true).getD 8 false = listed.getD 8 false := getD_set_ne _ (by decide)
            have g9 : (listed.setIfInBounds 2 true).getD 9 false = listed.getD 9 false := getD_set_ne _ (by decide)
            have g12 : (listed.setIfInBounds 2 true).getD 12 false = listed.getD 12 false := getD_set_ne _ (by decide)
            obtain rfl := f1 d1
            have HVB := Lib.hid hvb
            clear hi hdep hvb
            refine vf_wpOpP_of rfl rfl ?_
            go_simp
            exact hK _ _ ⟨_, _, (.pointer (some ⟨g, m, none⟩)), _, _, _, _, _, _, _, _, _, rfl, by simpa using hsz, fun h => by first | exact f0 (vf_listed_ne (by decide) h) | rfl, fun h => by first | exact f1 (vf_listed_ne (by decide) h) | rfl, fun _ => rfl, fun h => by first | exact f3 (vf_listed_ne (by decide) h) | rfl, fun h => by first | exact f4 (vf_listed_ne (by decide) h) | rfl, fun h => by first | exact f5 (vf_listed_ne (by decide) h) | rfl, fun h => by first | exact f6 (vf_listed_ne (by decide) h) | rfl, fun h => by first | exact f7 (vf_listed_ne (by decide) h) | rfl, fun h => by first | exact f10 (vf_listed_ne (by decide) h) | rfl, fun h => by first | exact f11 (vf_listed_ne (by decide) h) | rfl, fun _ => vf_listed_keep d1, fun h => vf_listed_keep (o3 (vf_listed_ne (by decide) h)), fun h => vf_listed_keep (o4 (vf_listed_ne (by decide) h)), fun h => vf_listed_keep (o6 (vf_listed_ne (by decide) h)), fun h => vf_listed_keep (o7 (vf_listed_ne (by decide) h)), fun h => vf_listed_keep (o8 (vf_listed_ne (by decide) h)), fun h => by have q := o9 (vf_listed_ne (by decide) h); exact ⟨vf_listed_keep q.1, vf_listed_keep q.2⟩, fun h => vf_listed_keep (o10 (vf_listed_ne (by decide) h)), fun h => vf_listed_keep (o11 (vf_listed_ne (by decide) h)), fun h => by have q := o12 (vf_listed_ne (by decide) h); exact ⟨vf_listed_keep q.1, vf_listed_keep q.2⟩, by rw [g8, g9, g12]; exact HVB.out⟩
          · injection ho with ho
            subst ho
            have d2 := hdep ⟨2, .data⟩ (by simp) rfl
            have g8 : (listed.setIfInBounds 3 true).getD 8 false = listed.getD 8 false := getD_set_ne _ (by decide)
            have g9 : (listed.setIfInBounds 3 true).getD 9 false = listed.getD 9 false := getD_set_ne _ (by decide)
            have g12 : (listed.setIfInBounds 3 true).getD 12 false = listed.getD 12 false := getD_set_ne _ (by decide)
            obtain rfl := f2 d2
            have HVB := Lib.hid hvb
            clear hi hdep hvb
            refine vf_wpOpP_of rfl rfl ?_
            go_simp
            exact hK _ _ ⟨_, _, _, (.pointer (some ⟨g, m, none⟩)), _, _, _, _, _, _, _, _, rfl, by simpa using hsz, fun h => by first | exact f0 (vf_listed_ne (by decide) h) | rfl, fun h => by first | exact f1 (vf_listed_ne (by decide) h) | rfl, fun h => by first | exact f2 (vf_listed_ne (by decide) h) | rfl, fun _ => rfl, fun h => by first | exact f4 (vf_listed_ne (by decide) h) | rfl, fun h => by first | exact f5 (vf_listed_ne (by decide) h) | rfl, fun h => by first | exact f6 (vf_listed_ne (by decide) h) | rfl, fun h => by first | exact f7 (vf_listed_ne (by decide) h) | rfl, fun h => by first | exact f10 (vf_listed_ne (by decide) h) | rfl, fun h => by first | exact f11 (vf_listed_ne (by decide) h) | rfl, fun h => vf_listed_keep (o2 (vf_listed_ne (by decide) h)), fun _ => vf_listed_keep d2, fun h => vf_listed_keep (o4 (vf_listed_ne (by decide) h)), fun h => vf_listed_keep (o6 (vf_listed_ne (by decide) h)), fun h => vf_listed_keep (o7 (vf_listed_ne (by decide) h)), fun h => vf_listed_keep (o8 (vf_listed_ne (by decide) h)), fun h => by have q := o9 (vf_listed_ne (by decide) h); exact ⟨vf_listed_keep q.1, vf_listed_keep q.2⟩, fun h => vf_listed_keep (o10 (vf_listed_ne (by decide) h)), fun h => vf_listed_keep (o11 (vf_listed_ne (by decide) h)), fun h => by have q := o12 (vf_listed_ne (by decide) h); exact ⟨vf_listed_keep q.1, vf_listed_keep q.2⟩, by rw [g8, g9, g12]; exact HVB.out⟩
          · injection ho with ho
            subst ho
            have d3 := hdep ⟨3, .data⟩ (by simp) rfl
            have g8 : (listed.setIfInBounds 4 true).getD 8 false = listed.getD 8 false := getD_set_ne _ (by decide)
            have g9 : (listed.setIfInBounds 4 true).getD 9 false = listed.getD 9 false := getD_set_ne _ (by decide)
            have g12 : (listed.setIfInBounds 4 true).getD 12 false = listed.getD 12 false := getD_set_ne _ (by decide)
            obtain rfl := f3 d3
            have n12 : listed.getD 12 false = false := by
              cases h : listed.getD 12 false with
              | false => rfl
              | true => have q := (o9 (o12 h).1).1; rw [hno] at q; cases q
            rw [n12] at hvb
            have k4 : w'.cell? ⟨g, m, none⟩ = some (.slice ua rl uc) := cell_heap (hvb.box rfl) HCQ.out
            have HVB := Lib.hid hvb
            clear hi hdep hvb
            refine vf_wpOpP_of rfl rfl ?_
            go_simp
            exact hK _ _ ⟨_, _, _, _, (.slice ua rl uc), _, _, _, _, _, _, _, rfl, by simpa using hsz, fun h => by first | exact f0 (vf_listed_ne (by decide) h) | rfl, fun h => by first | exact f1 (vf_listed_ne (by decide) h) | rfl, fun h => by first | exact f2 (vf_listed_ne (by decide) h) | rfl, fun h => by first | exact f3 (vf_listed_ne (by decide) h) | rfl, fun _ => rfl, fun h => by first | exact f5 (vf_listed_ne (by decide) h) | rfl, fun h => by first | exact f6 (vf_listed_ne (by decide) h) | rfl, fun h => by first | exact f7 (vf_listed_ne (by decide) h) | rfl, fun h => by first | exact f10 (vf_listed_ne (by decide) h) | rfl, fun h => by first | exact f11 (vf_listed_ne (by decide) h) | rfl, fun h => vf_listed_keep (o2 (vf_listed_ne (by decide) h)), fun h => vf_listed_keep (o3 (vf_listed_ne (by decide) h)), fun _ => vf_listed_keep d3, fun h => vf_listed_keep (o6 (vf_listed_ne (by decide) h)), fun h => vf_listed_keep (o7 (vf_listed_ne (by decide) h)), fun h => vf_listed_keep (o8 (vf_listed_ne (by decide) h)), fun h => by have q := o9 (vf_listed_ne (by decide) h); exact ⟨vf_listed_keep q.1, vf_listed_keep q.2⟩, fun h => vf_listed_keep (o10 (vf_listed_ne (by decide) h)), fun h => vf_listed_keep (o11 (vf_listed_ne (by decide) h)), fun h => by have q := o12 (vf_listed_ne (by decide) h); exact ⟨vf_listed_keep q.1, vf_listed_keep q.2⟩, by rw [g8, g9, g12, n12]; exact HVB.out⟩
          · injection ho with ho
            subst ho
            have g8 : (listed.setIfInBounds 5 true).getD 8 false = listed.getD 8 false := getD_set_ne _ (by decide)
            have g9 : (listed.setIfInBounds 5 true).getD 9 false = listed.getD 9 false := getD_set_ne _ (by decide)
            have g12 : (listed.setIfInBounds 5 true).getD 12 false = listed.getD 12 false := getD_set_ne _ (by decide)
            have HVB := Lib.hid hvb
            clear hi hdep hvb
            refine vf_wpOpP_of rfl rfl ?_
            go_simp
            exact hK _ _ ⟨_, _, _, _, _, (.pointer (some ⟨wr.heap.size, 3, none⟩)), _, _, _, _, _, _, rfl, by simpa using hsz, fun h => by first | exact f0 (vf_listed_ne (by decide) h) | rfl, fun h => by first | exact f1 (vf_listed_ne (by decide) h) | rfl, fun h => by first | exact f2 (vf_listed_ne (by decide) h) | rfl, fun h => by first | exact f3 (vf_listed_ne (by decide) h) | rfl, fun h => by first | exact f4 (vf_listed_ne (by decide) h) | rfl, fun _ => rfl, fun h => by first | exact f6 (vf_listed_ne (by decide) h) | rfl, fun h => by first | exact f7 (vf_listed_ne (by decide) h) | rfl, fun h => by first | exact f10 (vf_listed_ne (by decide) h) | rfl, fun h => by first | exact f11 (vf_listed_ne (by decide) h) | rfl, fun h => vf_listed_keep (o2 (vf_listed_ne (by decide) h)), fun h => vf_listed_keep (o3 (vf_listed_ne (by decide) h)), fun h => vf_listed_keep (o4 (vf_listed_ne (by decide) h)), fun h => vf_listed_keep (o6 (vf_listed_ne (by decide) h)), fun h => vf_listed_keep (o7 (vf_listed_ne (by decide) h)), fun h => vf_listed_keep (o8 (vf_listed_ne (by decide) h)), fun h => by have q := o9 (vf_listed_ne (by decide) h); exact ⟨vf_listed_keep q.1, vf_listed_keep q.2⟩, fun h => vf_listed_keep (o10 (vf_listed_ne (by decide) h)), fun h => vf_listed_keep (o11 (vf_listed_ne (by decide) h)), fun h => by have q := o12 (vf_listed_ne (by decide) h); exact ⟨vf_listed_keep q.1, vf_listed_keep q.2⟩, by rw [g8, g9, g12]; exact HVB.out⟩
          · injection ho with ho
            subst ho
            have d5 := hdep ⟨5, .data⟩ (by simp) rfl
            have g8 : (listed.setIfInBounds 6 true).getD 8 false = listed.getD 8 false := getD_set_ne _ (by decide)
            have g9 : (listed.setIfInBounds 6 true).getD 9 false = listed.getD 9 false := getD_set_ne _ (by decide)
            have g12 : (listed.setIfInBounds 6 true).getD 12 false = listed.getD 12 false := getD_set_ne _ (by decide)
            obtain rfl := f5 d5
            have n9 : listed.getD 9 false = false := by
              cases h : listed.getD 9 false with
              | false => rfl
              | true => have q := (o7 (o8 (o9 h).2)); rw [hno] at q; cases q
            rw [n9] at hvb
            have k6 := keepB (hvb.pre rfl).2.1 dt3
            have HVB := Lib.hid hvb
            clear hi hdep hvb
            refine vf_wpOpP_of rfl rfl ?_
            go_simp
            exact hK _ _ ⟨_, _, _, _, _, _, (.int .i64 x3), _, _, _, _, _, rfl, by simpa using hsz, fun h => by first | exact f0 (vf_listed_ne (by decide) h) | rfl, fun h => by first | exact f1 (vf_listed_ne (by decide) h) | rfl, fun h => by first | exact f2 (vf_listed_ne (by decide) h) | rfl, fun h => by first | exact f3 (vf_listed_ne (by decide) h) | rfl, fun h => by first | exact f4 (vf_listed_ne (by decide) h) | rfl, fun h => by first | exact f5 (vf_listed_ne (by decide) h) | rfl, fun _ => rfl, fun h => by first | exact f7 (vf_listed_ne (by decide) h) | rfl, fun h => by first | exact f10 (vf_listed_ne (by decide) h) | rfl, fun h => by first | exact f11 (vf_listed_ne (by decide) h) | rfl, fun h => vf_listed_keep (o2 (vf_listed_ne (by decide) h)), fun h => vf_listed_keep (o3 (vf_listed_ne (by decide) h)), fun h => vf_listed_keep (o4 (vf_listed_ne (by decide) h)), fun _ => vf_listed_keep d5, fun h => vf_listed_keep (o7 (vf_listed_ne (by decide) h)), fun h => vf_listed_keep (o8 (vf_listed_ne (by decide) h)), fun h => by have q := o9 (vf_listed_ne (by decide) h); exact ⟨vf_listed_keep q.1, vf_listed_keep q.2⟩, fun h => vf_listed_keep (o10 (vf_listed_ne (by decide) h)), fun h => vf_listed_keep (o11 (vf_listed_ne (by decide) h)), fun h => by have q := o12 (vf_listed_ne (by decide) h); exact ⟨vf_listed_keep q.1, vf_listed_keep q.2⟩, by rw [g8, g9, g12, n9]; exact HVB.out⟩
          · injection ho with ho
            subst ho
            have d6 := hdep ⟨6, .data⟩ (by simp) rfl
            have g8 : (listed.setIfInBounds 7 true).getD 8 false = listed.getD 8 false := getD_set_ne _ (by decide)
            have g9 : (listed.setIfInBounds 7 true).getD 9 false = listed.getD 9 false := getD_set_ne _ (by decide)
            have g12 : (listed.setIfInBounds 7 true).getD 12 false = listed.getD 12 false := getD_set_ne _ (by decide)
            obtain rfl := f6 d6
            obtain ⟨hwx, hix⟩ := HXW.out
            have HVB := Lib.hid hvb
            clear hi hdep hvb
            refine vf_wpOpP_of rfl rfl ?_
            go_simp
            exact hK _ _ ⟨_, _, _, _, _, _, _, (.int .i64 X), _, _, _, _, rfl, by simpa using hsz, fun h => by first | exact f0 (vf_listed_ne (by decide) h) | rfl, fun h => by first | exact f1 (vf_listed_ne (by decide) h) | rfl, fun h => by first | exact f2 (vf_listed_ne (by decide) h) | rfl, fun h => by first | exact f3 (vf_listed_ne (by decide) h) | rfl, fun h => by first | exact f4 (vf_listed_ne (by decide) h) | rfl, fun h => by first | exact f5 (vf_listed_ne (by decide) h) | rfl, fun h => by first | exact f6 (vf_listed_ne (by decide) h) | rfl, fun _ => rfl, fun h => by first | exact f10 (vf_listed_ne (by decide) h) | rfl, fun h => by first | exact f11 (vf_listed_ne (by decide) h) | rfl, fun h => vf_listed_keep (o2 (vf_listed_ne (by decide) h)), fun h => vf_listed_keep (o3 (vf_listed_ne (by decide) h)), fun h => vf_listed_keep (o4 (vf_listed_ne (by decide) h)), fun h => vf_listed_keep (o6 (vf_listed_ne (by decide) h)), fun _ => vf_listed_keep d6, fun h => vf_listed_keep (o8 (vf_listed_ne (by decide) h)), fun h => by have q := o9 (vf_listed_ne (by decide) h); exact ⟨vf_listed_keep q.1, vf_listed_keep q.2⟩, fun h => vf_listed_keep (o10 (vf_listed_ne (by decide) h)), fun h => vf_listed_keep (o11 (vf_listed_ne (by decide) h)), fun h => by have q := o12 (vf_listed_ne (by decide) h); exact ⟨vf_listed_keep q.1, vf_listed_keep q.2⟩, by rw [g8, g9, g12]; exact HVB.out⟩
          · injection ho with ho
            subst ho
            have d7 := hdep ⟨7, .data⟩ (by simp) rfl
            have g8 : (listed.setIfInBounds 8 true).getD 8 false = true := hself
            have g9 : (listed.setIfInBounds 8 true).getD 9 false = listed.getD 9 false := getD_set_ne _ (by decide)
            have g12 : (listed.setIfInBounds 8 true).getD 12 false = listed.getD 12 false := getD_set_ne _ (by decide)
            obtain rfl := f7 d7
            have n9 : listed.getD 9 false = false := by
              cases h : listed.getD 9 false with
              | false => rfl
              | true => have q := (o9 h).2; rw [hno] at q; cases q
            rw [n9, hno] at hvb
            have HVB := Lib.hid hvb
            clear hi hdep hvb
            refine vf_wpOpP_of rfl rfl ?_
            go_simp
            exact hK _ _ ⟨_, _, _, _, _, _, _, _, _, _, _, _, rfl, by simpa using hsz, fun h => by first | exact f0 (vf_listed_ne (by decide) h) | rfl, fun h => by first | exact f1 (vf_listed_ne (by decide) h) | rfl, fun h => by first | exact f2 (vf_listed_ne (by decide) h) | rfl, fun h => by first | exact f3 (vf_listed_ne (by decide) h) | rfl, fun h => by first | exact f4 (vf_listed_ne (by decide) h) | rfl, fun h => by first | exact f5 (vf_listed_ne (by decide) h) | rfl, fun h => by first | exact f6 (vf_listed_ne (by decide) h) | rfl, fun h => by first | exact f7 (vf_listed_ne (by decide) h) | rfl, fun h => by first | exact f10 (vf_listed_ne (by decide) h) | rfl, fun h => by first | exact f11 (vf_listed_ne (by decide) h) | rfl, fun h => vf_listed_keep (o2 (vf_listed_ne (by decide) h)), fun h => vf_listed_keep (o3 (vf_listed_ne (by decide) h)), fun h => vf_listed_keep (o4 (vf_listed_ne (by decide) h)), fun h => vf_listed_keep (o6 (vf_listed_ne (by decide) h)), fun h => vf_listed_keep (o7 (vf_listed_ne (by decide) h)), fun _ => vf_listed_keep d7, fun h => by have q := o9 (vf_listed_ne (by decide) h); exact ⟨vf_listed_keep q.1, vf_listed_keep q.2⟩, fun h => vf_listed_keep (o10 (vf_listed_ne (by decide) h)), fun h => vf_listed_keep (o11 (vf_listed_ne (by decide) h)), fun h => by have q := o12 (vf_listed_ne (by decide) h); exact ⟨vf_listed_keep q.1, vf_listed_keep q.2⟩, by rw [g8, g9, g12, n9]; exact HVB.out.built⟩
          · injection ho with ho
            subst ho
            have d4 := hdep ⟨4, .data⟩ (by simp) rfl
            have d8 := hdep ⟨8, .data⟩ (by simp) rfl
            have g8 : (listed.setIfInBounds 9 true).getD 8 false = listed.getD 8 false := getD_set_ne _ (by decide)
            have g9 : (listed.setIfInBounds 9 true).getD 9 false = true := hself
            have g12 : (listed.setIfInBounds 9 true).getD 12 false = listed.getD 12 false := getD_set_ne _ (by decide)
            obtain rfl := f4 d4
            have n12 : listed.getD 12 false = false := by
              cases h : listed.getD 12 false with
              | false => rfl
              | true => have q := (o12 h).1; rw [hno] at q; cases q
            rw [n12, d8, hno] at hvb
            obtain ⟨v10, w10, hrun10, hvb10⟩ := hvb.appd (by rw [HRL.out]; exact HLS.out) (by have := HB9.out.size; omega) (by rw [HRL.out]; omega) 22
            refine vf_wpOpP_of rfl rfl ?_
            refine wp_append_run (.tmp 71) (.tmp 75) 22 22 rfl _ _ rfl rfl hrun10 ?_
            exact hK _ _ ⟨_, _, _, _, _, _, _, _, _, (v10), _, _, rfl, by simpa using hsz, fun h => by first | exact f0 (vf_listed_ne (by decide) h) | rfl, fun h => by first | exact f1 (vf_listed_ne (by decide) h) | rfl, fun h => by first | exact f2 (vf_listed_ne (by decide) h) | rfl, fun h => by first | exact f3 (vf_listed_ne (by decide) h) | rfl, fun h => by first | exact f4 (vf_listed_ne (by decide) h) | rfl, fun h => by first | exact f5 (vf_listed_ne (by decide) h) | rfl, fun h => by first | exact f6 (vf_listed_ne (by decide) h) | rfl, fun h => by first | exact f7 (vf_listed_ne (by decide) h) | rfl, fun h => by first | exact f10 (vf_listed_ne (by decide) h) | rfl, fun h => by first | exact f11 (vf_listed_ne (by decide) h) | rfl, fun h => vf_listed_keep (o2 (vf_listed_ne (by decide) h)), fun h => vf_listed_keep (o3 (vf_listed_ne (by decide) h)), fun h => vf_listed_keep (o4 (vf_listed_ne (by decide) h)), fun h => vf_listed_keep (o6 (vf_listed_ne (by decide) h)), fun h => vf_listed_keep (o7 (vf_listed_ne (by decide) h)), fun h => vf_listed_keep (o8 (vf_listed_ne (by decide) h)), fun _ => ⟨vf_listed_keep d4, vf_listed_keep d8⟩, fun h => vf_listed_keep (o10 (vf_listed_ne (by decide) h)), fun h => vf_listed_keep (o11 (vf_listed_ne (by decide) h)), fun h => by have q := o12 (vf_listed_ne (by decide) h); exact ⟨vf_listed_keep q.1, vf_listed_keep q.2⟩, by rw [g8, g9, g12, n12, d8]; exact hvb10⟩
          · injection ho with ho
            subst ho
            have d0 := hdep ⟨0, .data⟩ (by simp) rfl
            have g8 : (listed.setIfInBounds 10 true).getD 8 false = listed.getD 8 false := getD_set_ne _ (by decide)
            have g9 : (listed.setIfInBounds 10 true).getD 9 false = listed.getD 9 false := getD_set_ne _ (by decide)
            have g12 : (listed.setIfInBounds 10 true).getD 12 false = listed.getD 12 false := getD_set_ne _ (by decide)
            obtain rfl := f0 d0
            have HVB := Lib.hid hvb
            clear hi hdep hvb
            refine vf_wpOpP_of rfl rfl ?_
            go_simp
            exact hK _ _ ⟨_, _, _, _, _, _, _, _, _, _, (.pointer (some ⟨g, m, none⟩)), _, rfl, by simpa using hsz, fun h => by first | exact f0 (vf_listed_ne (by decide) h) | rfl, fun h => by first | exact f1 (vf_listed_ne (by decide) h) | rfl, fun h => by first | exact f2 (vf_listed_ne (by decide) h) | rfl, fun h => by first | exact f3 (vf_listed_ne (by decide) h) | rfl, fun h => by first | exact f4 (vf_listed_ne (by decide) h) | rfl, fun h => by first | exact f5 (vf_listed_ne (by decide) h) | rfl, fun h => by first | exact f6 (vf_listed_ne (by decide) h) | rfl, fun h => by first | exact f7 (vf_listed_ne (by decide) h) | rfl, fun _ => rfl, fun h => by first | exact f11 (vf_listed_ne (by decide) h) | rfl, fun h => vf_listed_keep (o2 (vf_listed_ne (by decide) h)), fun h => vf_listed_keep (o3 (vf_listed_ne (by decide) h)), fun h => vf_listed_keep (o4 (vf_listed_ne (by decide) h)), fun h => vf_listed_keep (o6 (vf_listed_ne (by decide) h)), fun h => vf_listed_keep (o7 (vf_listed_ne (by decide) h)), fun h => vf_listed_keep (o8 (vf_listed_ne (by decide) h)), fun h => by have q := o9 (vf_listed_ne (by decide) h); exact ⟨vf_listed_keep q.1, vf_listed_keep q.2⟩, fun _ => vf_listed_keep d0, fun h => vf_listed_keep (o11 (vf_listed_ne (by decide) h)), fun h => by have q := o12 (vf_listed_ne (by decide) h); exact ⟨vf_listed_keep q.1, vf_listed_keep q.2⟩, by rw [g8, g9, g12]; exact HVB.out⟩
          · injection ho with ho
            subst ho
            have d10 := hdep ⟨10, .data⟩ (by simp) rfl
            have g8 : (listed.setIfInBounds 11 true).getD 8 false = listed.getD 8 false := getD_set_ne _ (by decide)
            have g9 : (listed.setIfInBounds 11 true).getD 9 false = listed.getD 9 false := getD_set_ne _ (by decide)
            have g12 : (listed.setIfInBounds 11 true).getD 12 false = listed.getD 12 false := getD_set_ne _ (by decide)
            obtain rfl := f10 d10
            have HVB := Lib.hid hvb
            clear hi hdep hvb
            refine vf_wpOpP_of rfl rfl ?_
            go_simp
            exact hK _ _ ⟨_, _, _, _, _, _, _, _, _, _, _, (.pointer (some ⟨g, m, none⟩)), rfl, by simpa using hsz, fun h => by first | exact f0 (vf_listed_ne (by decide) h) | rfl, fun h => by first | exact f1 (vf_listed_ne (by decide) h) | rfl, fun h => by first | exact f2 (vf_listed_ne (by decide) h) | rfl, fun h => by first | exact f3 (vf_listed_ne (by decide) h) | rfl, fun h => by first | exact f4 (vf_listed_ne (by decide) h) | rfl, fun h => by first | exact f5 (vf_listed_ne (by decide) h) | rfl, fun h => by first | exact f6 (vf_listed_ne (by decide) h) | rfl, fun h => by first | exact f7 (vf_listed_ne (by decide) h) | rfl, fun h => by first | exact f10 (vf_listed_ne (by decide) h) | rfl, fun _ => rfl, fun h => vf_listed_keep (o2 (vf_listed_ne (by decide) h)), fun h => vf_listed_keep (o3 (vf_listed_ne (by decide) h)), fun h => vf_listed_keep (o4 (vf_listed_ne (by decide) h)), fun h => vf_listed_keep (o6 (vf_listed_ne (by decide) h)), fun h => vf_listed_keep (o7 (vf_listed_ne (by decide) h)), fun h => vf_listed_keep (o8 (vf_listed_ne (by decide) h)), fun h => by have q := o9 (vf_listed_ne (by decide) h); exact ⟨vf_listed_keep q.1, vf_listed_keep q.2⟩, fun h => vf_listed_keep (o10 (vf_listed_ne (by decide) h)), fun _ => vf_listed_keep d10, fun h => by have q := o12 (vf_listed_ne (by decide) h); exact ⟨vf_listed_keep q.1, vf_listed_keep q.2⟩, by rw [g8, g9, g12]; exact HVB.out⟩
          · injection ho with ho
            subst ho
            have d9 := hdep ⟨9, .data⟩ (by simp) rfl
            have d11 := hdep ⟨11, .data⟩ (by simp) rfl
            have g8 : (listed.setIfInBounds 12 true).getD 8 false = listed.getD 8 false := getD_set_ne _ (by decide)
            have g9 : (listed.setIfInBounds 12 true).getD 9 false = listed.getD 9 false := getD_set_ne _ (by decide)
            have g12 : (listed.setIfInBounds 12 true).getD 12 false = true := hself
            obtain rfl := f11 d11
            have d8 := (o9 d9).2
            rw [d9, d8, hno] at hvb
            obtain ⟨na, nc, rfl⟩ := own_sl (hvb.app rfl rfl).2.1
            have k12 : w'.cell? ⟨g, m, none⟩ = some (.slice ua rl uc) := cell_heap (hvb.box rfl) HCQ.out
            have kf : w'.frozen? ⟨g, m, none⟩ = false := frozen_of_row w' _ _ _ _ (hvb.box rfl)
            have kz : g < w'.heap.size := (Array.getElem?_eq_some_iff.1 (hvb.box rfl)).1
            have HVB := Lib.hid hvb
            clear hi hdep hvb
            refine vf_wpOpP_of rfl rfl ?_
            go_simp
            exact hK _ _ ⟨_, _, _, _, _, _, _, _, _, _, _, _, rfl, by simpa using hsz, fun h => by first | exact f0 (vf_listed_ne (by decide) h) | rfl, fun h => by first | exact f1 (vf_listed_ne (by decide) h) | rfl, fun h => by first | exact f2 (vf_listed_ne (by decide) h) | rfl, fun h => by first | exact f3 (vf_listed_ne (by decide) h) | rfl, fun h => by first | exact f4 (vf_listed_ne (by decide) h) | rfl, fun h => by first | exact f5 (vf_listed_ne (by decide) h) | rfl, fun h => by first | exact f6 (vf_listed_ne (by decide) h) | rfl, fun h => by first | exact f7 (vf_listed_ne (by decide) h) | rfl, fun h => by first | exact f10 (vf_listed_ne (by decide) h) | rfl, fun h => by first | exact f11 (vf_listed_ne (by decide) h) | rfl, fun h => vf_listed_keep (o2 (vf_listed_ne (by decide) h)), fun h => vf_listed_keep (o3 (vf_listed_ne (by decide) h)), fun h => vf_listed_keep (o4 (vf_listed_ne (by decide) h)), fun h => vf_listed_keep (o6 (vf_listed_ne (by decide) h)), fun h => vf_listed_keep (o7 (vf_listed_ne (by decide) h)), fun h => vf_listed_keep (o8 (vf_listed_ne (by decide) h)), fun h => by have q := o9 (vf_listed_ne (by decide) h); exact ⟨vf_listed_keep q.1, vf_listed_keep q.2⟩, fun h => vf_listed_keep (o10 (vf_listed_ne (by decide) h)), fun h => vf_listed_keep (o11 (vf_listed_ne (by decide) h)), fun _ => ⟨vf_listed_keep d9, vf_listed_keep d11⟩, by rw [g8, g9, g12, d9, d8]; exact HVB.out.stored⟩
        case fin =>
          rintro listed a' w' ⟨t67, t68, t69, t70, t71, t72, t73, t74, t75, t76, t77, t78, rfl, hsz, f0, f1, f2, f3, f4, f5, f6, f7, f10, f11, o2, o3, o4, o6, o7, o8, o9, o10, o11, o12, hvb⟩ hr
          have hfull := vf_ready_full hsz hr (by kernel_rfl)
          obtain rfl := f0 (hfull 0 (by decide))
          obtain rfl := f1 (hfull 1 (by decide))
          obtain rfl := f2 (hfull 2 (by decide))
          obtain rfl := f3 (hfull 3 (by decide))
          obtain rfl := f4 (hfull 4 (by decide))
          obtain rfl := f5 (hfull 5 (by decide))
          obtain rfl := f6 (hfull 6 (by decide))
          obtain rfl := f7 (hfull 7 (by decide))
          obtain rfl := f10 (hfull 10 (by decide))
          obtain rfl := f11 (hfull 11 (by decide))
          rw [hfull 8 (by decide), hfull 9 (by decide), hfull 12 (by decide)] at hvb
          clear o2 o3 o4 o6 o7 o8 o9 o10 o11 o12 hfull hr hsz
          obtain ⟨v', hb', ho', hl', hz', e1, e2, e3, hf'⟩ := hvb.fin rfl
          have hst' := RkSt.more HVQ.out HST.out HCU.out hb' (by rw [HRL.out] at ho' ⊢; exact ho') hl' hz' hf'
          have hbb : Below w5.heap.size w5 w' := ⟨e1.trans HB9.out.os, e2.trans HB9.out.tape, e3.trans HB9.out.output, Nat.le_trans HB9.out.size hz', fun b hb => (hf' b (by have := HB9.out.size; omega) (by omega) (fun e => by have := (HLS.out.lt b e.symm).1; omega)).trans (HB9.out.block b hb)⟩
          have HFIN := Lib.hid (And.intro hst'.at_ hbb)
          clear hvb hb' ho' hl' hz' e1 e2 e3 hf' hst' hbb
          go_wp2
          go_roundw
          case rel => exact ⟨_, _, _, _, _, ⟨0 + 1, by omega, by go_num, ⟨_, by rw [HKK.out]; exact HFIN.out.1⟩, HFIN.out.2⟩, rfl, rfl, rfl, rfl, rfl⟩
          case measure => simp [intOf]; omega
      · obtain ⟨j, rfl⟩ : ∃ j, k = j + 1 := ⟨k - 1, by omega⟩
        obtain ⟨b', off', y0, y1, y2, y3, hE, -, -, hy, p0, p1, p2, p3⟩ := (HS5.out.below hbr).tdr (k := j) (by omega)
        cases hE
        replace p2 := keepB HB1.out p2
        have hk1 : (((j : Int) + 1) == 0) = false := by simp; omega
        have hk2 : ¬ (j : Int) + 1 = 0 := by omega
        have HWJ := Lib.hid (wzC (j : Int) (by omega))
        have hjz : (j : Int) < (n : Int) := by omega
        have hj0 : 0 ≤ (j : Int) := by omega
        clear p0 p1 p3 hbr
        by_cases hpp : y2 = x2
        · have HOLD := Lib.hid (rkT_old HQX.out (show newB Q (j + 1) = false by unfold newB; rw [HQX.out, Nat.add_sub_cancel, hy]; simp only; rw [hpp]; simp))
          have HNE := Lib.hid (rkT_ne (P := Q) (k := j + 1) (by omega) (by have := HN.out; omega))
          subst hpp
          obtain ⟨hwj, hij⟩ := HWJ.out
          clear hy
          go_quiet (fail)
          clear hwj hij
          go_upto_region 14 with fail
          generalize hW2 : World.drewN _ _ = W2
          have hb2 : Below W1.heap.size W1 W2 := by rw [← hW2]; exact bdrN brefl
          have hb02 : Below wr.heap.size wr W2 := bup HB1.out hb2
          have z2 := hb02.size
          have HTB2 := Lib.hid ((hb2.block _ z1W).trans HBX.out)
          have HOW2 := Lib.hid (ownsRow_belowZ HOW.out hb02)
          have HRK2 := Lib.hid (HRK.out.below hb02)
          have HBR2 := Lib.hid (bup HBR.out hb02)
          have zW2 : wr.heap.size < W2.heap.size := by have := hb2.size; omega
          clear hW2 hb2 hb02 d2
          obtain ⟨w9, hw9⟩ : ∃ w9, w9 = W2 := ⟨W2, rfl⟩
          subst hw9
          have HTB := Lib.hid HTB2.out
          have HB9 := Lib.hid HBR2.out
          rcases HRK2.out.2.2 with hus | ⟨vs, u, Rs, r, e1, e2, hst⟩
          · exfalso
            have h1 := HRK2.out.2.1.1
            rw [hus] at h1
            exact HNE.out (List.eq_nil_of_length_eq_zero h1.symm)
          obtain ⟨q, hqv⟩ : ∃ q, vs.length = q := ⟨_, rfl⟩
          have hmq : m = q + 1 := by rw [← HM.out, e1]; simp; omega
          subst hmq
          have hkk : rkT Q ((j + 1) + 1) = Rs ++ [r ++ [X]] := by rw [HOLD.out, e2, addLast_snoc, HXX.out]
          have hvq := hqv
          obtain ⟨g, rfl⟩ := hst.lit
          clear e1 e2 hqv HTB2 HOW2 HRK2 HBR2 HOLD HNE
          obtain ⟨cur, hcur, hcq, hbg⟩ := hst.cellq hvq
          have hlst := hst.last
          obtain ⟨rl, hrl⟩ : ∃ rl, r.length = rl := ⟨_, rfl⟩
          have hrl60 : rl ≤ 1000 := by
            have h1 := (KR.out ((j + 1) + 1) (by have := HN.out; omega)).l (r ++ [X]) (by rw [hkk]; simp)
            rw [List.length_append, hrl] at h1; omega
          rw [hrl] at hlst
          obtain ⟨ua, uc, rfl⟩ := own_sl hlst
          have hgz : g < w9.heap.size := (Array.getElem?_eq_some_iff.1 hcur).1
          have htz : wr.heap.size < w9.heap.size := (Array.getElem?_eq_some_iff.1 HTB.out).1
          have hgt : ¬ g = wr.heap.size := by
            intro e
            have h1 := hcur
            rw [e, HTB.out] at h1
            simp at h1
          have dt3 : w9.cell? ⟨wr.heap.size, 3, none⟩ = some (.int .i64 x3) := cell_heap HTB.out rfl
          have HST := Lib.hid hst
          have HCU := Lib.hid hcur
          have HCQ := Lib.hid hcq
          have HVQ := Lib.hid hvq
          have HKK := Lib.hid hkk
          have HLS := Lib.hid hlst
          have HRL := Lib.hid hrl
          have HWQ := Lib.hid (wzC (q : Int) (by omega))
          have hq1 : (q : Int) < ((q + 1 : Nat) : Int) := by omega
          have hq2 : (q : Int) < (q : Int) + 1 := by omega
          have hq0 : 0 ≤ (q : Int) := by omega
          clear hst hcur hcq hvq hkk hlst hrl
          obtain ⟨hwq, hiq⟩ := HWQ.out
          go_upto_region 15 with fail
          clear hwq hiq
          refine wp_region_any (by kernel_rfl) ?_
          change wpAny _ _ _ _ _ _ _ (World.drew _)
          refine vf_anyP_inv (J := fun listed a' w' => ∃ t67 t68 t69 t70 t71 t72 t73 t74 t75 t76 t77 t78 : Value, a' = { tmps := #[Value.slice (some ⟨bb, off, none⟩) n oc4, Value.int IntKind.i64 am, Value.int IntKind.i64 most, undef, undef, Value.pointer (some ⟨w.heap.size, 0, none⟩), Value.pointer (some ⟨w.heap.size + 1, 0, none⟩), Value.int IntKind.i64 0, Value.int IntKind.i64 0, Value.slice (some ⟨g, 0, none⟩) (q + 1) rc, Value.int IntKind.i64 ↑(j + 1), Value.pointer (some ⟨wr.heap.size, 0, none⟩), Value.pointer (some ⟨g, q, none⟩), undef, undef, undef, undef, Value.slice la ln lc, Value.int IntKind.i64 0, Value.int IntKind.i64 0, Value.bool false, undef, undef, Value.int IntKind.i64 am, Value.bool true, Value.bool false, Value.bool false, Value.int IntKind.i64 most, Value.bool true, Value.bool false, Value.bool false, undef, Value.slice la ln lc, Value.slice oa3 S.length oc3, Value.func (Fn.func 19) #[] #[Value.pointer (some ⟨w.heap.size, 0, none⟩)], Value.slice (some ⟨bb, off, none⟩) n oc4, Value.slice (some ⟨bb, off, none⟩) n oc4, Value.tuple #[], Value.slice (some ⟨bb, off, none⟩) n oc4, Value.int IntKind.i64 ↑n, Value.int IntKind.i64 ↑(j + 1), Value.bool true, Value.int IntKind.i64 ↑(j + 1), Value.pointer (some ⟨bb, off + (j + 1) * 4, none⟩), Value.agg #[Value.int IntKind.i64 x0, Value.int IntKind.i64 x1, Value.int IntKind.i64 y2, Value.int IntKind.i64 x3], Value.int IntKind.i64 ↑(j + 1), Value.bool false, Value.bool false, Value.slice (some ⟨bb, off, none⟩) n oc4, Value.int IntKind.i64 ↑(j + 1), Value.int IntKind.i64 ↑j, Value.pointer (some ⟨bb, off + j * 4, none⟩), Value.pointer (some ⟨bb, off + j * 4 + 2, none⟩), Value.int IntKind.i64 y2, Value.pointer (some ⟨wr.heap.size, 2, none⟩), Value.int IntKind.i64 y2, Value.bool false, Value.bool false, u58, u59, u60, u61, Value.slice (some ⟨g, 0, none⟩) (q + 1) rc, Value.slice (some ⟨g, 0, none⟩) (q + 1) rc, Value.int IntKind.i64 (↑q + 1), Value.int IntKind.i64 ↑q, Value.pointer (some ⟨g, q, none⟩), t67, t68, t69, t70, t71, t72, t73, t74, t75, t76, t77, t78, u79, undef, undef, undef, undef, undef, undef, undef, undef, undef, undef, undef, undef, undef, undef, undef, undef, undef, undef, undef, undef, undef, undef, undef, undef, undef, undef, undef, undef, undef, undef, undef, undef, undef, undef, undef, undef, undef, undef, undef, undef, undef, undef, undef, undef, undef], defers := [] } ∧ listed.size = 13 ∧ (listed.getD 0 false = true → t67 = .pointer (some ⟨g, q, none⟩)) ∧ (listed.getD 1 false = true → t68 = .pointer (some ⟨g, q, none⟩)) ∧ (listed.getD 2 false = true → t69 = .pointer (some ⟨g, q, none⟩)) ∧ (listed.getD 3 false = true → t70 = .pointer (some ⟨g, q, none⟩)) ∧ (listed.getD 4 false = true → t71 = .slice ua rl uc) ∧ (listed.getD 5 false = true → t72 = .pointer (some ⟨wr.heap.size, 3, none⟩)) ∧ (listed.getD 6 false = true → t73 = .int .i64 x3) ∧ (listed.getD 7 false = true → t74 = .int .i64 X) ∧ (listed.getD 10 false = true → t77 = .pointer (some ⟨g, q, none⟩)) ∧ (listed.getD 11 false = true → t78 = .pointer (some ⟨g, q, none⟩)) ∧ (listed.getD 2 false = true → listed.getD 1 false = true) ∧ (listed.getD 3 false = true → listed.getD 2 false = true) ∧ (listed.getD 4 false = true → listed.getD 3 false = true) ∧ (listed.getD 6 false = true → listed.getD 5 false = true) ∧ (listed.getD 7 false = true → listed.getD 6 false = true) ∧ (listed.getD 8 false = true → listed.getD 7 false = true) ∧ (listed.getD 9 false = true → listed.getD 4 false = true ∧ listed.getD 8 false = true) ∧ (listed.getD 10 false = true → listed.getD 0 false = true) ∧ (listed.getD 11 false = true → listed.getD 10 false = true) ∧ (listed.getD 12 false = true → listed.getD 9 false = true ∧ listed.getD 11 false = true) ∧ D15 w9 g q cur w5.heap.size (.slice ua rl uc) r X (listed.getD 8 false) (listed.getD 9 false) (listed.getD 12 false) t75 t76 w') ?step ?fin _ _ _ _ ⟨_, _, _, _, _, _, _, _, _, _, _, _, rfl, rfl, fun h => by simp at h, fun h => by simp at h, fun h => by simp at h, fun h => by simp at h, fun h => by simp at h, fun h => by simp at h, fun h => by simp at h, fun h => by simp at h, fun h => by simp at h, fun h => by simp at h, fun h => by simp at h, fun h => by simp at h, fun h => by simp at h, fun h => by simp at h, fun h => by simp at h, fun h => by simp at h, fun h => by simp at h, fun h => by simp at h, fun h => by simp at h, fun h => by simp at h, D15.start HCU.out (bdr brefl)⟩ (by decide)
          case step =>
            rintro listed a' w' ⟨t67, t68, t69, t70, t71, t72, t73, t74, t75, t76, t77, t78, rfl, hsz, f0, f1, f2, f3, f4, f5, f6, f7, f10, f11, o2, o3, o4, o6, o7, o8, o9, o10, o11, o12, hvb⟩ i hi K hK
            obtain ⟨hni, o, ho, hdep⟩ := mem_ready.1 hi
            have hin : i < 13 := (Array.getElem?_eq_some_iff.1 ho).1
            have hself := vf_listed_self hni
            have hno := vf_listed_no hni
            rcases (show i = 0 ∨ i = 1 ∨ i = 2 ∨ i = 3 ∨ i = 4 ∨ i = 5 ∨ i = 6 ∨ i = 7 ∨ i = 8 ∨ i = 9 ∨ i = 10 ∨ i = 11 ∨ i = 12 by omega) with rfl | rfl | rfl | rfl | rfl | rfl | rfl | rfl | rfl | rfl | rfl | rfl | rfl
            · injection ho with ho
              subst ho
              have g8 : (listed.setIfInBounds 0 true).getD 8 false = listed.getD 8 false := getD_set_ne _ (by decide)
              have g9 : (listed.setIfInBounds 0 true).getD 9 false = listed.getD 9 false := getD_set_ne _ (by decide)
              have g12 : (listed.setIfInBounds 0 true).getD 12 false = listed.getD 12 false := getD_set_ne _ (by decide)
              have HVB := Lib.hid hvb
              clear hi hdep hvb
              refine vf_wpOpP_of rfl rfl ?_
              go_simp
              exact hK _ _ ⟨(.pointer (some ⟨g, q, none⟩)), _, _, _, _, _, _, _, _, _, _, _, rfl, by simpa using hsz, fun _ => rfl, fun h => by first | exact f1 (vf_listed_ne (by decide) h) | rfl, fun h => by first | exact f2 (vf_listed_ne (by decide) h) | rfl, fun h => by first | exact f3 (vf_listed_ne (by decide) h) | rfl, fun h => by first | exact f4 (vf_listed_ne (by decide) h) | rfl, fun h => by first | exact f5 (vf_listed_ne (by decide) h) | rfl, fun h => by first | exact f6 (vf_listed_ne (by decide) h) | rfl, fun h => by first | exact f7 (vf_listed_ne (by decide) h) | rfl, fun h => by first | exact f10 (vf_listed_ne (by decide) h) | rfl, fun h => by first | exact f11 (vf_listed_ne (by decide) h) | rfl, fun h => vf_listed_keep (o2 (vf_listed_ne (by decide) h)), fun h => vf_listed_keep (o3 (vf_listed_ne (by decide) h)), fun h => vf_listed_keep (o4 (vf_listed_ne (by decide) h)), fun h => vf_listed_keep (o6 (vf_listed_ne (by decide) h)), fun h => vf_listed_keep (o7 (vf_listed_ne (by decide) h)), fun h => vf_listed_keep (o8 (vf_listed_ne (by decide) h)), fun h => by have q := o9 (vf_listed_ne (by decide) h); exact ⟨vf_listed_keep q.1, vf_listed_keep q.2⟩, fun h => vf_listed_keep (o10 (vf_listed_ne (by decide) h)), fun h => vf_listed_keep (o11 (vf_listed_ne (by decide) h)), fun h => by have q := o12 (vf_listed_ne (by decide) h); exact ⟨vf_listed_keep q.1, vf_listed_keep q.2⟩, by rw [g8, g9, g12]; exact HVB.out⟩
            · injection ho with ho
              subst ho
              have g8 : (listed.setIfInBounds 1 true).getD 8 false = listed.getD 8 false := getD_set_ne _ (by decide)
              have g9 : (listed.setIfInBounds 1 true).getD 9 false = listed.getD 9 false := getD_set_ne _ (by decide)
              have g12 : (listed.setIfInBounds 1 true).getD 12 false = listed.getD 12 false := getD_set_ne _ (by decide)
              have HVB := Lib.hid hvb
              clear hi hdep hvb
              refine vf_wpOpP_of rfl rfl ?_
              go_simp
              exact hK _ _ ⟨_, (.pointer (some ⟨g, q, none⟩)), _, _, _, _, _, _, _, _, _, _, rfl, by simpa using hsz, fun h => by first | exact f0 (vf_listed_ne (by decide) h) | rfl, fun _ => rfl, fun h => by first | exact f2 (vf_listed_ne (by decide) h) | rfl, fun h => by first | exact f3 (vf_listed_ne (by decide) h) | rfl, fun h => by first | exact f4 (vf_listed_ne (by decide) h) | rfl, fun h => by first | exact f5 (vf_listed_ne (by decide) h) | rfl, fun h => by first | exact f6 (vf_listed_ne (by decide) h) | rfl, fun h => by first | exact f7 (vf_listed_ne (by decide) h) | rfl, fun h => by first | exact f10 (vf_listed_ne (by decide) h) | rfl, fun h => by first | exact f11 (vf_listed_ne (by decide) h) | rfl, fun h => vf_listed_keep (o2 (vf_listed_ne (by decide) h)), fun h => vf_listed_keep (o3 (vf_listed_ne (by decide) h)), fun h => vf_listed_keep (o4 (vf_listed_ne (by decide) h)), fun h => vf_listed_keep (o6 (vf_listed_ne (by decide) h)), fun h => vf_listed_keep (o7 (vf_listed_ne (by decide) h)), fun h => vf_listed_keep (o8 (vf_listed_ne (by decide) h)), fun h => by have q := o9 (vf_listed_ne (by decide) h); exact ⟨vf_listed_keep q.1, vf_listed_keep q.2⟩, fun h => vf_listed_keep (o10 (vf_listed_ne (by decide) h)), fun h => vf_listed_keep (o11 (vf_listed_ne (by decide) h)), fun h => by have q := o12 (vf_listed_ne (by decide) h); exact ⟨vf_listed_keep q.1, vf_listed_keep q.2⟩, by rw [g8, g9, g12]; exact HVB.out⟩
            · injection ho with ho
              subst ho
              have d1 := hdep ⟨1, .data⟩ (by simp) rfl
              have g8 : (listed.setIfInBounds 2 true).getD 8 false = listed.getD 8 false := getD_set_ne _ (by decide)
              have g9 : (listed.setIfInBounds 2 true).getD 9 false = listed.getD 9 false := getD_set_ne _ (by decide)
              have g12 : (listed.setIfInBounds 2 true).getD 12 false = listed.getD 12 false := getD_set_ne _ (by decide)
              obtain rfl := f1 d1
              have HVB := Lib.hid hvb
              clear hi hdep hvb
              refine vf_wpOpP_of rfl rfl ?_
              go_simp
              exact hK _ _ ⟨_, _, (.pointer (some ⟨g, q, none⟩)), _, _, _, _, _, _, _, _, _, rfl, by simpa using hsz, fun h => by first | exact f0 (vf_listed_ne (by decide) h) | rfl, fun h => by first | exact f1 (vf_listed_ne (by decide) h) | rfl, fun _ => rfl, fun h => by first | exact f3 (vf_listed_ne (by decide) h) | rfl, fun h => by first | exact f4 (vf_listed_ne (by decide) h) | rfl, fun h => by first | exact f5 (vf_listed_ne (by decide) h) | rfl, fun h => by first | exact f6 (vf_listed_ne (by decide) h) | rfl, fun h => by first | exact f7 (vf_listed_ne (by decide) h) | rfl, fun h => by first | exact f10 (vf_listed_ne (by decide) h) | rfl, fun h => by first | exact f11 (vf_listed_ne (by decide) h) | rfl, fun _ => vf_listed_keep d1, fun h => vf_listed_keep (o3 (vf_listed_ne (by decide) h)), fun h => vf_listed_keep (o4 (vf_listed_ne (by decide) h)), fun h => vf_listed_keep (o6 (vf_listed_ne (by decide) h)), fun h => vf_listed_keep (o7 (vf_listed_ne (by decide) h)), fun h => vf_listed_keep (o8 (vf_listed_ne (by decide) h)), fun h => by have q := o9 (vf_listed_ne (by decide) h); exact ⟨vf_listed_keep q.1, vf_listed_keep q.2⟩, fun h => vf_listed_keep (o10 (vf_listed_ne (by decide) h)), fun h => vf_listed_keep (o11 (vf_listed_ne (by decide) h)), fun h => by have q := o12 (vf_listed_ne (by decide) h); exact ⟨vf_listed_keep q.1, vf_listed_keep q.2⟩, by rw [g8, g9, g12]; exact HVB.out⟩
            · injection ho with ho
              subst ho
              have d2 := hdep ⟨2, .data⟩ (by simp) rfl
              have g8 : (listed.setIfInBounds 3 true).getD 8 false = listed.getD 8 false := getD_set_ne _ (by decide)
              have g9 : (listed.setIfInBounds 3 true).getD 9 false = listed.getD 9 false := getD_set_ne _ (by decide)
              have g12 : (listed.setIfInBounds 3 true).getD 12 false = listed.getD 12 false := getD_set_ne _ (by decide)
              obtain rfl := f2 d2
              have HVB := Lib.hid hvb
              clear hi hdep hvb
              refine vf_wpOpP_of rfl rfl ?_
              go_simp
              exact hK _ _ ⟨_, _, _, (.pointer (some ⟨g, q, none⟩)), _, _, _, _, _, _, _, _, rfl, by simpa using hsz, fun h => by first | exact f0 (vf_listed_ne (by decide) h) | rfl, fun h => by first | exact f1 (vf_listed_ne (by decide) h) | rfl, fun h => by first | exact f2 (vf_listed_ne (by decide) h) | rfl, fun _ => rfl, fun h => by first | exact f4 (vf_listed_ne (by decide) h) | rfl, fun h => by first | exact f5 (vf_listed_ne (by decide) h) | rfl, fun h => by first | exact f6 (vf_listed_ne (by decide) h) | rfl, fun h => by first | exact f7 (vf_listed_ne (by decide) h) | rfl, fun h => by first | exact f10 (vf_listed_ne (by decide) h) | rfl, fun h => by first | exact f11 (vf_listed_ne (by decide) h) | rfl, fun h => vf_listed_keep (o2 (vf_listed_ne (by decide) h)), fun _ => vf_listed_keep d2, fun h => vf_listed_keep (o4 (vf_listed_ne (by decide) h)), fun h => vf_listed_keep (o6 (vf_listed_ne (by decide) h)), fun h => vf_listed_keep (o7 (vf_listed_ne (by decide) h)), fun h => vf_listed_keep (o8 (vf_listed_ne (by decide) h)), fun h => by have q := o9 (vf_listed_ne (by decide) h); exact ⟨vf_listed_keep q.1, vf_listed_keep q.2⟩, fun h => vf_listed_keep (o10 (vf_listed_ne (by decide) h)), fun h => vf_listed_keep (o11 (vf_listed_ne (by decide) h)), fun h => by have q := o12 (vf_listed_ne (by decide) h); exact ⟨vf_listed_keep q.1, vf_listed_keep q.2⟩, by rw [g8, g9, g12]; exact HVB.out⟩
            · injection ho with ho
              subst ho
              have d3 := hdep ⟨3, .data⟩ (by simp) rfl
              have g8 : (listed.setIfInBounds 4 true).getD 8 false = listed.getD 8 false := getD_set_ne _ (by decide)
              have g9 : (listed.setIfInBounds 4 true).getD 9 false = listed.getD 9 false := getD_set_ne _ (by decide)
              have g12 : (listed.setIfInBounds 4 true).getD 12 false = listed.getD 12 false := getD_set_ne _ (by decide)
              obtain rfl := f3 d3
              have n12 : listed.getD 12 false = false := by
                cases h : listed.getD 12 false with
                | false => rfl
                | true => have q := (o9 (o12 h).1).1; rw [hno] at q; cases q
              rw [n12] at hvb
              have k4 : w'.cell? ⟨g, q, none⟩ = some (.slice ua rl uc) := cell_heap (hvb.box rfl) HCQ.out
              have HVB := Lib.hid hvb
              clear hi hdep hvb
              refine vf_wpOpP_of rfl rfl ?_
              go_simp
              exact hK _ _ ⟨_, _, _, _, (.slice ua rl uc), _, _, _, _, _, _, _, rfl, by simpa using hsz, fun h => by first | exact f0 (vf_listed_ne (by decide) h) | rfl, fun h => by first | exact f1 (vf_listed_ne (by decide) h) | rfl, fun h => by first | exact f2 (vf_listed_ne (by decide) h) | rfl, fun h => by first | exact f3 (vf_listed_ne (by decide) h) | rfl, fun _ => rfl, fun h => by first | exact f5 (vf_listed_ne (by decide) h) | rfl, fun h => by first | exact f6 (vf_listed_ne (by decide) h) | rfl, fun h => by first | exact f7 (vf_listed_ne (by decide) h) | rfl, fun h => by first | exact f10 (vf_listed_ne (by decide) h) | rfl, fun h => by first | exact f11 (vf_listed_ne (by decide) h) | rfl, fun h => vf_listed_keep (o2 (vf_listed_ne (by decide) h)), fun h => vf_listed_keep (o3 (vf_listed_ne (by decide) h)), fun _ => vf_listed_keep d3, fun h => vf_listed_keep (o6 (vf_listed_ne (by decide) h)), fun h => vf_listed_keep (o7 (vf_listed_ne (by decide) h)), fun h => vf_listed_keep (o8 (vf_listed_ne (by decide) h)), fun h => by have q := o9 (vf_listed_ne (by decide) h); exact ⟨vf_listed_keep q.1, vf_listed_keep q.2⟩, fun h => vf_listed_keep (o10 (vf_listed_ne (by decide) h)), fun h => vf_listed_keep (o11 (vf_listed_ne (by decide) h)), fun h => by have q := o12 (vf_listed_ne (by decide) h); exact ⟨vf_listed_keep q.1, vf_listed_keep q.2⟩, by rw [g8, g9, g12, n12]; exact HVB.out⟩
            · injection ho with ho
              subst ho
              have g8 : (listed.setIfInBounds 5 true).getD 8 false = listed.getD 8 false := getD_set_ne _ (by decide)
              have g9 : (listed.setIfInBounds 5 true).getD 9 false = listed.getD 9 false := getD_set_ne _ (by decide)
              have g12 : (listed.setIfInBounds 5 true).getD 12 false = listed.getD 12 false := getD_set_ne _ (by decide)
              have HVB := Lib.hid hvb
              clear hi hdep hvb
              refine vf_wpOpP_of rfl rfl ?_
              go_simp
              exact hK _ _ ⟨_, _, _, _, _, (.pointer (some ⟨wr.heap.size, 3, none⟩)), _, _, _, _, _, _, rfl, by simpa using hsz, fun h => by first | exact f0 (vf_listed_ne (by decide) h) | rfl, fun h => by first | exact f1 (vf_listed_ne (by decide) h) | rfl, fun h => by first | exact f2 (vf_listed_ne (by decide) h) | rfl, fun h => by first | exact f3 (vf_listed_ne (by decide) h) | rfl, fun h => by first | exact f4 (vf_listed_ne (by decide) h) | rfl, fun _ => rfl, fun h => by first | exact f6 (vf_listed_ne (by decide) h) | rfl, fun h => by first | exact f7 (vf_listed_ne (by decide) h) | rfl, fun h => by first | exact f10 (vf_listed_ne (by decide) h) | rfl, fun h => by first | exact f11 (vf_listed_ne (by decide) h) | rfl, fun h => vf_listed_keep (o2 (vf_listed_ne (by decide) h)), fun h => vf_listed_keep (o3 (vf_listed_ne (by decide) h)), fun h => vf_listed_keep (o4 (vf_listed_ne (by decide) h)), fun h => vf_listed_keep (o6 (vf_listed_ne (by decide) h)), fun h => vf_listed_keep (o7 (vf_listed_ne (by decide) h)), fun h => vf_listed_keep (o8 (vf_listed_ne (by decide) h)), fun h => by have q := o9 (vf_listed_ne (by decide) h); exact ⟨vf_listed_keep q.1, vf_listed_keep q.2⟩, fun h => vf_listed_keep (o10 (vf_listed_ne (by decide) h)), fun h => vf_listed_keep (o11 (vf_listed_ne (by decide) h)), fun h => by have q := o12 (vf_listed_ne (by decide) h); exact ⟨vf_listed_keep q.1, vf_listed_keep q.2⟩, by rw [g8, g9, g12]; exact HVB.out⟩
            · injection ho with ho
              subst ho
              have d5 := hdep ⟨5, .data⟩ (by simp) rfl
              have g8 : (listed.setIfInBounds 6 true).getD 8 false = listed.getD 8 false := getD_set_ne _ (by decide)
              have g9 : (listed.setIfInBounds 6 true).getD 9 false = listed.getD 9 false := getD_set_ne _ (by decide)
              have g12 : (listed.setIfInBounds 6 true).getD 12 false = listed.getD 12 false := getD_set_ne _ (by decide)
              obtain rfl := f5 d5
              have n9 : listed.getD 9 false = false := by
                cases h : listed.getD 9 false with
                | false => rfl
                | true => have q := (o7 (o8 (o9 h).2)); rw [hno] at q; cases q
              rw [n9] at hvb
              have k6 := keepB (hvb.pre rfl).2.1 dt3
              have HVB := Lib.hid hvb
              clear hi hdep hvb
              refine vf_wpOpP_of rfl rfl ?_
              go_simp
              exact hK _ _ ⟨_, _, _, _, _, _, (.int .i64 x3), _, _, _, _, _, rfl, by simpa using hsz, fun h => by first | exact f0 (vf_listed_ne (by decide) h) | rfl, fun h => by first | exact f1 (vf_listed_ne (by decide) h) | rfl, fun h => by first | exact f2 (vf_listed_ne (by decide) h) | rfl, fun h => by first | exact f3 (vf_listed_ne (by decide) h) | rfl, fun h => by first | exact f4 (vf_listed_ne (by decide) h) | rfl, fun h => by first | exact f5 (vf_listed_ne (by decide) h) | rfl, fun _ => rfl, fun h => by first | exact f7 (vf_listed_ne (by decide) h) | rfl, fun h => by first | exact f10 (vf_listed_ne (by decide) h) | rfl, fun h => by first | exact f11 (vf_listed_ne (by decide) h) | rfl, fun h => vf_listed_keep (o2 (vf_listed_ne (by decide) h)), fun h => vf_listed_keep (o3 (vf_listed_ne (by decide) h)), fun h => vf_listed_keep (o4 (vf_listed_ne (by decide) h)), fun _ => vf_listed_keep d5, fun h => vf_listed_keep (o7 (vf_listed_ne (by decide) h)), fun h => vf_listed_keep (o8 (vf_listed_ne (by decide) h)), fun h => by have q := o9 (vf_listed_ne (by decide) h); exact ⟨vf_listed_keep q.1, vf_listed_keep q.2⟩, fun h => vf_listed_keep (o10 (vf_listed_ne (by decide) h)), fun h => vf_listed_keep (o11 (vf_listed_ne (by decide) h)), fun h => by have q := o12 (vf_listed_ne (by decide) h); exact ⟨vf_listed_keep q.1, vf_listed_keep q.2⟩, by rw [g8, g9, g12, n9]; exact HVB.out⟩
            · injection ho with ho
              subst ho
              have d6 := hdep ⟨6, .data⟩ (by simp) rfl
              have g8 : (listed.setIfInBounds 7 true).getD 8 false = listed.getD 8 false := getD_set_ne _ (by decide)
              have g9 : (listed.setIfInBounds 7 true).getD 9 false = listed.getD 9 false := getD_set_ne _ (by decide)
              have g12 : (listed.setIfInBounds 7 true).getD 12 false = listed.getD 12 false := getD_set_ne _ (by decide)
              obtain rfl := f6 d6
              obtain ⟨hwx, hix⟩ := HXW.out
              have HVB := Lib.hid hvb
              clear hi hdep hvb
              refine vf_wpOpP_of rfl rfl ?_
              go_simp
              exact hK _ _ ⟨_, _, _, _, _, _, _, (.int .i64 X), _, _, _, _, rfl, by simpa using hsz, fun h => by first | exact f0 (vf_listed_ne (by decide) h) | rfl, fun h => by first | exact f1 (vf_listed_ne (by decide) h) | rfl, fun h => by first | exact f2 (vf_listed_ne (by decide) h) | rfl, fun h => by first | exact f3 (vf_listed_ne (by decide) h) | rfl, fun h => by first | exact f4 (vf_listed_ne (by decide) h) | rfl, fun h => by first | exact f5 (vf_listed_ne (by decide) h) | rfl, fun h => by first | exact f6 (vf_listed_ne (by decide) h) | rfl, fun _ => rfl, fun h => by first | exact f10 (vf_listed_ne (by decide) h) | rfl, fun h => by first | exact f11 (vf_listed_ne (by decide) h) | rfl, fun h => vf_listed_keep (o2 (vf_listed_ne (by decide) h)), fun h => vf_listed_keep (o3 (vf_listed_ne (by decide) h)), fun h => vf_listed_keep (o4 (vf_listed_ne (by decide) h)), fun h => vf_listed_keep (o6 (vf_listed_ne (by decide) h)), fun _ => vf_listed_keep d6, fun h => vf_listed_keep (o8 (vf_listed_ne (by decide) h)), fun h => by have q := o9 (vf_listed_ne (by decide) h); exact ⟨vf_listed_keep q.1, vf_listed_keep q.2⟩, fun h => vf_listed_keep (o10 (vf_listed_ne (by decide) h)), fun h => vf_listed_keep (o11 (vf_listed_ne (by decide) h)), fun h => by have q := o12 (vf_listed_ne (by decide) h); exact ⟨vf_listed_keep q.1, vf_listed_keep q.2⟩, by rw [g8, g9, g12]; exact HVB.out⟩
            · injection ho with ho
              subst ho
              have d7 := hdep ⟨7, .data⟩ (by simp) rfl
              have g8 : (listed.setIfInBounds 8 true).getD 8 false = true := hself
              have g9 : (listed.setIfInBounds 8 true).getD 9 false = listed.getD 9 false := getD_set_ne _ (by decide)
              have g12 : (listed.setIfInBounds 8 true).getD 12 false = listed.getD 12 false := getD_set_ne _ (by decide)
              obtain rfl := f7 d7
              have n9 : listed.getD 9 false = false := by
                cases h : listed.getD 9 false with
                | false => rfl
                | true => have q := (o9 h).2; rw [hno] at q; cases q
              rw [n9, hno] at hvb
              have HVB := Lib.hid hvb
              clear hi hdep hvb
              refine vf_wpOpP_of rfl rfl ?_
              go_simp
              exact hK _ _ ⟨_, _, _, _, _, _, _, _, _, _, _, _, rfl, by simpa using hsz, fun h => by first | exact f0 (vf_listed_ne (by decide) h) | rfl, fun h => by first | exact f1 (vf_listed_ne (by decide) h) | rfl, fun h => by first | exact f2 (vf_listed_ne (by decide) h) | rfl, fun h => by first | exact f3 (vf_listed_ne (by decide) h) | rfl, fun h => by first | exact f4 (vf_listed_ne (by decide) h) | rfl, fun h => by first | exact f5 (vf_listed_ne (by decide) h) | rfl, fun h => by first | exact f6 (vf_listed_ne (by decide) h) | rfl, fun h => by first | exact f7 (vf_listed_ne (by decide) h) | rfl, fun h => by first | exact f10 (vf_listed_ne (by decide) h) | rfl, fun h => by first | exact f11 (vf_listed_ne (by decide) h) | rfl, fun h => vf_listed_keep (o2 (vf_listed_ne (by decide) h)), fun h => vf_listed_keep (o3 (vf_listed_ne (by decide) h)), fun h => vf_listed_keep (o4 (vf_listed_ne (by decide) h)), fun h => vf_listed_keep (o6 (vf_listed_ne (by decide) h)), fun h => vf_listed_keep (o7 (vf_listed_ne (by decide) h)), fun _ => vf_listed_keep d7, fun h => by have q := o9 (vf_listed_ne (by decide) h); exact ⟨vf_listed_keep q.1, vf_listed_keep q.2⟩, fun h => vf_listed_keep (o10 (vf_listed_ne (by decide) h)), fun h => vf_listed_keep (o11 (vf_listed_ne (by decide) h)), fun h => by have q := o12 (vf_listed_ne (by decide) h); exact ⟨vf_listed_keep q.1, vf_listed_keep q.2⟩, by rw [g8, g9, g12, n9]; exact HVB.out.built⟩
            · injection ho with ho
              subst ho
              have d4 := hdep ⟨4, .data⟩ (by simp) rfl
              have d8 := hdep ⟨8, .data⟩ (by simp) rfl
              have g8 : (listed.setIfInBounds 9 true).getD 8 false = listed.getD 8 false := getD_set_ne _ (by decide)
              have g9 : (listed.setIfInBounds 9 true).getD 9 false = true := hself
              have g12 : (listed.setIfInBounds 9 true).getD 12 false = listed.getD 12 false := getD_set_ne _ (by decide)
              obtain rfl := f4 d4
              have n12 : listed.getD 12 false = false := by
                cases h : listed.getD 12 false with
                | false => rfl
                | true => have q := (o12 h).1; rw [hno] at q; cases q
              rw [n12, d8, hno] at hvb
              obtain ⟨v10, w10, hrun10, hvb10⟩ := hvb.appd (by rw [HRL.out]; exact HLS.out) (by have := HB9.out.size; omega) (by rw [HRL.out]; omega) 22
              refine vf_wpOpP_of rfl rfl ?_
              refine wp_append_run (.tmp 71) (.tmp 75) 22 22 rfl _ _ rfl rfl hrun10 ?_
              exact hK _ _ ⟨_, _, _, _, _, _, _, _, _, (v10), _, _, rfl, by simpa using hsz, fun h => by first | exact f0 (vf_listed_ne (by decide) h) | rfl, fun h => by first | exact f1 (vf_listed_ne (by decide) h) | rfl, fun h => by first | exact f2 (vf_listed_ne (by decide) h) | rfl, fun h => by first | exact f3 (vf_listed_ne (by decide) h) | rfl, fun h => by first | exact f4 (vf_listed_ne (by decide) h) | rfl, fun h => by first | exact f5 (vf_listed_ne (by decide) h) | rfl, fun h => by first | exact f6 (vf_listed_ne (by decide) h) | rfl, fun h => by first | exact f7 (vf_listed_ne (by decide) h) | rfl, fun h => by first | exact f10 (vf_listed_ne (by decide) h) | rfl, fun h => by first | exact f11 (vf_listed_ne (by decide) h) | rfl, fun h => vf_listed_keep (o2 (vf_listed_ne (by decide) h)), fun h => vf_listed_keep (o3 (vf_listed_ne (by decide) h)), fun h => vf_listed_keep (o4 (vf_listed_ne (by decide) h)), fun h => vf_listed_keep (o6 (vf_listed_ne (by decide) h)), fun h => vf_listed_keep (o7 (vf_listed_ne (by decide) h)), fun h => vf_listed_keep (o8 (vf_listed_ne (by decide) h)), fun _ => ⟨vf_listed_keep d4, vf_listed_keep d8⟩, fun h => vf_listed_keep (o10 (vf_listed_ne (by decide) h)), fun h => vf_listed_keep (o11 (vf_listed_ne (by decide) h)), fun h => by have q := o12 (vf_listed_ne (by decide) h); exact ⟨vf_listed_keep q.1, vf_listed_keep q.2⟩, by rw [g8, g9, g12, n12, d8]; exact hvb10⟩
            · injection ho with ho
              subst ho
              have d0 := hdep ⟨0, .data⟩ (by simp) rfl
              have g8 : (listed.setIfInBounds 10 true).getD 8 false = listed.getD 8 false := getD_set_ne _ (by decide)
              have g9 : (listed.setIfInBounds 10 true).getD 9 false = listed.getD 9 false := getD_set_ne _ (by decide)
              have g12 : (listed.setIfInBounds 10 true).getD 12 false = listed.getD 12 false := getD_set_ne _ (by decide)
              obtain rfl := f0 d0
              have HVB := Lib.hid hvb
              clear hi hdep hvb
              refine vf_wpOpP_of rfl rfl ?_
              go_simp
              exact hK _ _ ⟨_, _, _, _, _, _, _, _, _, _, (.pointer (some ⟨g, q, none⟩)), _, rfl, by simpa using hsz, fun h => by first | exact f0 (vf_listed_ne (by decide) h) | rfl, fun h => by first | exact f1 (vf_listed_ne (by decide) h) | rfl, fun h => by first | exact f2 (vf_listed_ne (by decide) h) | rfl, fun h => by first | exact f3 (vf_listed_ne (by decide) h) | rfl, fun h => by first | exact f4 (vf_listed_ne (by decide) h) | rfl, fun h => by first | exact f5 (vf_listed_ne (by decide) h) | rfl, fun h => by first | exact f6 (vf_listed_ne (by decide) h) | rfl, fun h => by first | exact f7 (vf_listed_ne (by decide) h) | rfl, fun _ => rfl, fun h => by first | exact f11 (vf_listed_ne (by decide) h) | rfl, fun h => vf_listed_keep (o2 (vf_listed_ne (by decide) h)), fun h => vf_listed_keep (o3 (vf_listed_ne (by decide) h)), fun h => vf_listed_keep (o4 (vf_listed_ne (by decide) h)), fun h => vf_listed_keep (o6 (vf_listed_ne (by decide) h)), fun h => vf_listed_keep (o7 (vf_listed_ne (by decide) h)), fun h => vf_listed_keep (o8 (vf_listed_ne (by decide) h)), fun h => by have q := o9 (vf_listed_ne (by decide) h); exact ⟨vf_listed_keep q.1, vf_listed_keep q.2⟩, fun _ => vf_listed_keep d0, fun h => vf_listed_keep (o11 (vf_listed_ne (by decide) h)), fun h => by have q := o12 (vf_listed_ne (by decide) h); exact ⟨vf_listed_keep q.1, vf_listed_keep q.2⟩, by rw [g8, g9, g12]; exact HVB.out⟩
            · injection ho with ho
              subst ho
              have d10 := hdep ⟨10, .data⟩ (by simp) rfl
              have g8 : (listed.setIfInBounds 11 true).getD 8 false = listed.getD 8 false := getD_set_ne _ (by decide)
              have g9 : (listed.setIfInBounds 11 true).getD 9 false = listed.getD 9 false := getD_set_ne _ (by decide)
              have g12 : (listed.setIfInBounds 11 true).getD 12 false = listed.getD 12 false := getD_set_ne _ (by decide)
              obtain rfl := f10 d10
              have HVB := Lib.hid hvb
              clear hi hdep hvb
              refine vf_wpOpP_of rfl rfl ?_
              go_simp
              exact hK _ _ ⟨_, _, _, _, _, _, _, _, _, _, _, (.pointer (some ⟨g, q, none⟩)), rfl, by simpa using hsz, fun h => by first | exact f0 (vf_listed_ne (by decide) h) | rfl, fun h => by first | exact f1 (vf_listed_ne (by decide) h) | rfl, fun h => by first | exact f2 (vf_listed_ne (by decide) h) | rfl, fun h => by first | exact f3 (vf_listed_ne (by decide) h) | rfl, fun h => by first | exact f4 (vf_listed_ne (by decide) h) | rfl, fun h => by first | exact f5 (vf_listed_ne (by decide) h) | rfl, fun h => by first | exact f6 (vf_listed_ne (by decide) h) | rfl, fun h => by first | exact f7 (vf_listed_ne (by decide) h) | rfl, fun h => by first | exact f10 (vf_listed_ne (by decide) h) | rfl, fun _ => rfl, fun h => vf_listed_keep (o2 (vf_listed_ne (by decide) h)), fun h => vf_listed_keep (o3 (vf_listed_ne (by decide) h)), fun h => vf_listed_keep (o4 (vf_listed_ne (by decide) h)), fun h => vf_listed_keep (o6 (vf_listed_ne (by decide) h)), fun h => vf_listed_keep (o7 (vf_listed_ne (by decide) h)), fun h => vf_listed_keep (o8 (vf_listed_ne (by decide) h)), fun h => by have q := o9 (vf_listed_ne (by decide) h); exact ⟨vf_listed_keep q.1, vf_listed_keep q.2⟩, fun h => vf_listed_keep (o10 (vf_listed_ne (by decide) h)), fun _ => vf_listed_keep d10, fun h => by have q := o12 (vf_listed_ne (by decide) h); exact ⟨vf_listed_keep q.1, vf_listed_keep q.2⟩, by rw [g8, g9, g12]; exact HVB.out⟩
            · injection ho with ho
              subst ho
              have d9 := hdep ⟨9, .data⟩ (by simp) rfl
              have d11 := hdep ⟨11, .data⟩ (by simp) rfl
              have g8 : (listed.setIfInBounds 12 true).getD 8 false = listed.getD 8 false := getD_set_ne _ (by decide)
              have g9 : (listed.setIfInBounds 12 true).getD 9 false = listed.getD 9 false := getD_set_ne _ (by decide)
              have g12 : (listed.setIfInBounds 12 true).getD 12 false = true := hself
              obtain rfl := f11 d11
              have d8 := (o9 d9).2
              rw [d9, d8, hno] at hvb
              obtain ⟨na, nc, rfl⟩ := own_sl (hvb.app rfl rfl).2.1
              have k12 : w'.cell? ⟨g, q, none⟩ = some (.slice ua rl uc) := cell_heap (hvb.box rfl) HCQ.out
              have kf : w'.frozen? ⟨g, q, none⟩ = false := frozen_of_row w' _ _ _ _ (hvb.box rfl)
              have kz : g < w'.heap.size := (Array.getElem?_eq_some_iff.1 (hvb.box rfl)).1
              have HVB := Lib.hid hvb
              clear hi hdep hvb
              refine vf_wpOpP_of rfl rfl ?_
              go_simp
              exact hK _ _ ⟨_, _, _, _, _, _, _, _, _, _, _, _, rfl, by simpa using hsz, fun h => by first | exact f0 (vf_listed_ne (by decide) h) | rfl, fun h => by first | exact f1 (vf_listed_ne (by decide) h) | rfl, fun h => by first | exact f2 (vf_listed_ne (by decide) h) | rfl, fun h => by first | exact f3 (vf_listed_ne (by decide) h) | rfl, fun h => by first | exact f4 (vf_listed_ne (by decide) h) | rfl, fun h => by first | exact f5 (vf_listed_ne (by decide) h) | rfl, fun h => by first | exact f6 (vf_listed_ne (by decide) h) | rfl, fun h => by first | exact f7 (vf_listed_ne (by decide) h) | rfl, fun h => by first | exact f10 (vf_listed_ne (by decide) h) | rfl, fun h => by first | exact f11 (vf_listed_ne (by decide) h) | rfl, fun h => vf_listed_keep (o2 (vf_listed_ne (by decide) h)), fun h => vf_listed_keep (o3 (vf_listed_ne (by decide) h)), fun h => vf_listed_keep (o4 (vf_listed_ne (by decide) h)), fun h => vf_listed_keep (o6 (vf_listed_ne (by decide) h)), fun h => vf_listed_keep (o7 (vf_listed_ne (by decide) h)), fun h => vf_listed_keep (o8 (vf_listed_ne (by decide) h)), fun h => by have q := o9 (vf_listed_ne (by decide) h); exact ⟨vf_listed_keep q.1, vf_listed_keep q.2⟩, fun h => vf_listed_keep (o10 (vf_listed_ne (by decide) h)), fun h => vf_listed_keep (o11 (vf_listed_ne (by decide) h)), fun _ => ⟨vf_listed_keep d9, vf_listed_keep d11⟩, by rw [g8, g9, g12, d9, d8]; exact HVB.out.stored⟩
          case fin =>
            rintro listed a' w' ⟨t67, t68, t69, t70, t71, t72, t73, t74, t75, t76, t77, t78, rfl, hsz, f0, f1, f2, f3, f4, f5, f6, f7, f10, f11, o2, o3, o4, o6, o7, o8, o9, o10, o11, o12, hvb⟩ hr
            have hfull := vf_ready_full hsz hr (by kernel_rfl)
            obtain rfl := f0 (hfull 0 (by decide))
            obtain rfl := f1 (hfull 1 (by decide))
            obtain rfl := f2 (hfull 2 (by decide))
            obtain rfl := f3 (hfull 3 (by decide))
            obtain rfl := f4 (hfull 4 (by decide))
            obtain rfl := f5 (hfull 5 (by decide))
            obtain rfl := f6 (hfull 6 (by decide))
            obtain rfl := f7 (hfull 7 (by decide))
            obtain rfl := f10 (hfull 10 (by decide))
            obtain rfl := f11 (hfull 11 (by decide))
            rw [hfull 8 (by decide), hfull 9 (by decide), hfull 12 (by decide)] at hvb
            clear o2 o3 o4 o6 o7 o8 o9 o10 o11 o12 hfull hr hsz
            obtain ⟨v', hb', ho', hl', hz', e1, e2, e3, hf'⟩ := hvb.fin rfl
            have hst' := RkSt.more HVQ.out HST.out HCU.out hb' (by rw [HRL.out] at ho' ⊢; exact ho') hl' hz' hf'
            have hbb : Below w5.heap.size w5 w' := ⟨e1.trans HB9.out.os, e2.trans HB9.out.tape, e3.trans HB9.out.output, Nat.le_trans HB9.out.size hz', fun b hb => (hf' b (by have := HB9.out.size; omega) (by omega) (fun e => by have := (HLS.out.lt b e.symm).1; omega)).trans (HB9.out.block b hb)⟩
            have HFIN := Lib.hid (And.intro hst'.at_ hbb)
            clear hvb hb' ho' hl' hz' e1 e2 e3 hf' hst' hbb
            go_wp2
            go_roundw
            case rel => exact ⟨_, _, _, _, _, ⟨(j + 1) + 1, by omega, by go_num, ⟨_, by rw [HKK.out]; exact HFIN.out.1⟩, HFIN.out.2⟩, rfl, rfl, rfl, rfl, rfl⟩
            case measure => simp [intOf]; omega
        · have HNW := Lib.hid (rkT_new HQX.out (show newB Q (j + 1) = true by unfold newB; rw [HQX.out, Nat.add_sub_cancel, hy]; simp only; rw [show (y2 == x2) = false by simpa using hpp]; simp))
          have hpp2 : (y2 == x2) = false := by simpa using hpp
          obtain ⟨hwj, hij⟩ := HWJ.out
          clear hy
          go_quiet (fail)
          clear hwj hij
          go_upto_region 13 with fail
          generalize hW2 : World.drewN _ _ = W2
          have hb2 : Below W1.heap.size W1 W2 := by rw [← hW2]; exact bdrN brefl
          have hb02 : Below wr.heap.size wr W2 := bup HB1.out hb2
          have z2 := hb02.size
          have HTB2 := Lib.hid ((hb2.block _ z1W).trans HBX.out)
          have HOW2 := Lib.hid (ownsRow_belowZ HOW.out hb02)
          have HRK2 := Lib.hid (HRK.out.below hb02)
          have HBR2 := Lib.hid (bup HBR.out hb02)
          have zW2 : wr.heap.size < W2.heap.size := by have := hb2.size; omega
          clear hW2 hb2 hb02 d2
          go_upto_region 14 with (at_builtin; go_must (refine wpList_append_own_at _ rfl _ _ 53 rfl w5.heap.size 55 j1 (.agg #[.slice none 0 0]) 1 24 Try.underlying53 ji jz0 jz1 jz2 rfl (by decide) _ _ _ rfl (HOW2.out.alloc _) ⟨_, 0, none⟩ 1 1 (encV (.slice none 0 0)) rfl rfl (newsL _ _ _) (by intro u hu; simp only [encV, List.mem_singleton] at hu; subst hu; rfl) (by unfold maxLen; omega) (by omega) (by simp; omega) ?_); intro v' w9 hown' hgrow _ hloc)
          have hst0 : RkSt w9 w5.heap.size v' us (.slice none 0 0) (rkT Q (j + 1)) [] := RkSt.fresh (HRK2.out.2.1.below (bal brefl _)) hgrow (by rw [HM.out]; exact hown') hloc
          have HTB := Lib.hid ((hgrow.block wr.heap.size (by simp; omega) (fun e => by have := (HOW.out.lt _ e.symm).2; omega)).trans ((heap_alloc_old W2 _ zW2).trans HTB2.out))
          have HB9 := Lib.hid (show Below w5.heap.size w5 w9 from (bal HBR2.out _).grown hgrow (by simp; omega) (fun q hq => (HOW.out.lt q hq).1))
          obtain ⟨ra', rc', rfl⟩ := own_sl hown'
          obtain ⟨q, hqm⟩ : ∃ q, m = q := ⟨_, rfl⟩
          subst hqm
          obtain ⟨vs, u, Rs, r, hst, hvq, hkk⟩ : ∃ vs u Rs r, RkSt w9 w5.heap.size (.slice ra' (m + 1) rc') vs u Rs r ∧ vs.length = m ∧ rkT Q ((j + 1) + 1) = Rs ++ [r ++ [X]] := ⟨us, _, _, _, hst0, HM.out, by rw [HNW.out, HXX.out]; rfl⟩
          obtain ⟨g, rfl⟩ := hst.lit
          clear hown' hgrow hloc hst0 HTB2 HOW2 HRK2 HBR2 HNW
          obtain ⟨cur, hcur, hcq, hbg⟩ := hst.cellq hvq
          have hlst := hst.last
          obtain ⟨rl, hrl⟩ : ∃ rl, r.length = rl := ⟨_, rfl⟩
          have hrl60 : rl ≤ 1000 := by
            have h1 := (KR.out ((j + 1) + 1) (by have := HN.out; omega)).l (r ++ [X]) (by rw [hkk]; simp)
            rw [List.length_append, hrl] at h1; omega
          rw [hrl] at hlst
          obtain ⟨ua, uc, rfl⟩ := own_sl hlst
          have hgz : g < w9.heap.size := (Array.getElem?_eq_some_iff.1 hcur).1
          have htz : wr.heap.size < w9.heap.size := (Array.getElem?_eq_some_iff.1 HTB.out).1
          have hgt : ¬ g = wr.heap.size := by
            intro e
            have h1 := hcur
            rw [e, HTB.out] at h1
            simp at h1
          have dt3 : w9.cell? ⟨wr.heap.size, 3, none⟩ = some (.int .i64 x3) := cell_heap HTB.out rfl
          have HST := Lib.hid hst
          have HCU := Lib.hid hcur
          have HCQ := Lib.hid hcq
          have HVQ := Lib.hid hvq
          have HKK := Lib.hid hkk
          have HLS := Lib.hid hlst
          have HRL := Lib.hid hrl
          have HWQ := Lib.hid (wzC (m : Int) (by omega))
          have hq1 : (m : Int) < ((m + 1 : Nat) : Int) := by omega
          have hq2 : (m : Int) < (m : Int) + 1 := by omega
          have hq0 : 0 ≤ (m : Int) := by omega
          clear hst hcur hcq hvq hkk hlst hrl
          obtain ⟨hwq, hiq⟩ := HWQ.out
          go_upto_region 15 with fail
          clear hwq hiq
          refine wp_region_any (by kernel_rfl) ?_
          change wpAny _ _ _ _ _ _ _ (World.drew _)
          refine vf_anyP_inv (J := fun listed a' w' => ∃ t67 t68 t69 t70 t71 t72 t73 t74 t75 t76 t77 t78 : Value, a' = { tmps := #[Value.slice (some ⟨bb, off, none⟩) n oc4, Value.int IntKind.i64 am, Value.int IntKind.i64 most, undef, undef, Value.pointer (some ⟨w.heap.size, 0, none⟩), Value.pointer (some ⟨w.heap.size + 1, 0, none⟩), Value.int IntKind.i64 0, Value.int IntKind.i64 0, Value.slice (some ⟨g, 0, none⟩) (m + 1) rc', Value.int IntKind.i64 (↑j + 1), Value.pointer (some ⟨wr.heap.size, 0, none⟩), Value.pointer (some ⟨g, m, none⟩), undef, undef, undef, undef, Value.slice la ln lc, Value.int IntKind.i64 0, Value.int IntKind.i64 0, Value.bool false, undef, undef, Value.int IntKind.i64 am, Value.bool true, Value.bool false, Value.bool false, Value.int IntKind.i64 most, Value.bool true, Value.bool false, Value.bool false, undef, Value.slice la ln lc, Value.slice oa3 S.length oc3, Value.func (Fn.func 19) #[] #[Value.pointer (some ⟨w.heap.size, 0, none⟩)], Value.slice (some ⟨bb, off, none⟩) n oc4, Value.slice (some ⟨bb, off, none⟩) n oc4, Value.tuple #[], Value.slice (some ⟨bb, off, none⟩) n oc4, Value.int IntKind.i64 ↑n, Value.int IntKind.i64 (↑j + 1), Value.bool true, Value.int IntKind.i64 (↑j + 1), Value.pointer (some ⟨bb, off + (j + 1) * 4, none⟩), Value.agg #[Value.int IntKind.i64 x0, Value.int IntKind.i64 x1, Value.int IntKind.i64 x2, Value.int IntKind.i64 x3], Value.int IntKind.i64 (↑j + 1), Value.bool false, Value.bool false, Value.slice (some ⟨bb, off, none⟩) n oc4, Value.int IntKind.i64 (↑j + 1), Value.int IntKind.i64 ↑j, Value.pointer (some ⟨bb, off + j * 4, none⟩), Value.pointer (some ⟨bb, off + j * 4 + 2, none⟩), Value.int IntKind.i64 y2, Value.pointer (some ⟨wr.heap.size, 2, none⟩), Value.int IntKind.i64 x2, Value.bool true, Value.bool true, Value.slice ra m rc, Value.agg #[Value.slice none 0 0], Value.slice (some ⟨W2.heap.size, 0, none⟩) 1 1, Value.slice (some ⟨g, 0, none⟩) (m + 1) rc', Value.slice (some ⟨g, 0, none⟩) (m + 1) rc', Value.slice (some ⟨g, 0, none⟩) (m + 1) rc', Value.int IntKind.i64 (↑m + 1), Value.int IntKind.i64 ↑m, Value.pointer (some ⟨g, m, none⟩), t67, t68, t69, t70, t71, t72, t73, t74, t75, t76, t77, t78, u79, undef, undef, undef, undef, undef, undef, undef, undef, undef, undef, undef, undef, undef, undef, undef, undef, undef, undef, undef, undef, undef, undef, undef, undef, undef, undef, undef, undef, undef, undef, undef, undef, undef, undef, undef, undef, undef, undef, undef, undef, undef, undef, undef, undef, undef], defers := [] } ∧ listed.size = 13 ∧ (listed.getD 0 false = true → t67 = .pointer (some ⟨g, m, none⟩)) ∧ (listed.getD 1 false = true → t68 = .pointer (some ⟨g, m, none⟩)) ∧ (listed.getD 2 false = true → t69 = .pointer (some ⟨g, m, none⟩)) ∧ (listed.getD 3 false = true → t70 = .pointer (some ⟨g, m, none⟩)) ∧ (listed.getD 4 false = true → t71 = .slice ua rl uc) ∧ (listed.getD 5 false = true → t72 = .pointer (some ⟨wr.heap.size, 3, none⟩)) ∧ (listed.getD 6 false = true → t73 = .int .i64 x3) ∧ (listed.getD 7 false = true → t74 = .int .i64 X) ∧ (listed.getD 10 false = true → t77 = .pointer (some ⟨g, m, none⟩)) ∧ (listed.getD 11 false = true → t78 = .pointer (some ⟨g, m, none⟩)) ∧ (listed.getD 2 false = true → listed.getD 1 false = true) ∧ (listed.getD 3 false = true → listed.getD 2 false = true) ∧ (listed.getD 4 false = true → listed.getD 3 false = true) ∧ (listed.getD 6 false = true → listed.getD 5 false = true) ∧ (listed.getD 7 false = true → listed.getD 6 false = true) ∧ (listed.getD 8 false = true → listed.getD 7 false = true) ∧ (listed.getD 9 false = true → listed.getD 4 false = true ∧ listed.getD 8 false = true) ∧ (listed.getD 10 false = true → listed.getD 0 false = true) ∧ (listed.getD 11 false = true → listed.getD 10 false = true) ∧ (listed.getD 12 false = true → listed.getD 9 false = true ∧ listed.getD 11 false = true) ∧ D15 w9 g m cur w5.heap.size (.slice ua rl uc) r X (listed.getD 8 false) (listed.getD 9 false) (listed.getD 12 false) t75 t76 w') ?step ?fin _ _ _ _ ⟨_, _, _, _, _, _, _, _, _, _, _, _, rfl, rfl, fun h => by simp at h, fun h => by simp at h, fun h => by simp at h, fun h => by simp at h, fun h => by simp at h, fun h => by simp at h, fun h => by simp at h, fun h => by simp at h, fun h => by simp at h, fun h => by simp at h, fun h => by simp at h, fun h => by simp at h, fun h => by simp at h, fun h => by simp at h, fun h => by simp at h, fun h => by simp at h, fun h => by simp at h, fun h => by simp at h, fun h => by simp at h, fun h => by simp at h, D15.start HCU.out (bdr brefl)⟩ (by decide)
          case step =>
            rintro listed a' w' ⟨t67, t68, t69, t70, t71, t72, t73, t74, t75, t76, t77, t78, rfl, hsz, f0, f1, f2, f3, f4, f5, f6, f7, f10, f11, o2, o3, o4, o6, o7, o8, o9, o10, o11, o12, hvb⟩ i hi K hK
            obtain ⟨hni, o, ho, hdep⟩ := mem_ready.1 hi
            have hin : i < 13 := (Array.getElem?_eq_some_iff.1 ho).1
            have hself := vf_listed_self hni
            have hno := vf_listed_no hni
            rcases (show i = 0 ∨ i = 1 ∨ i = 2 ∨ i = 3 ∨ i = 4 ∨ i = 5 ∨ i = 6 ∨ i = 7 ∨ i = 8 ∨ i = 9 ∨ i = 10 ∨ i = 11 ∨ i = 12 by omega) with rfl | rfl | rfl | rfl | rfl | rfl | rfl | rfl | rfl | rfl | rfl | rfl | rfl
            · injection ho with ho
              subst ho
              have g8 : (listed.setIfInBounds 0 true).getD 8 false = listed.getD 8 false := getD_set_ne _ (by decide)
              have g9 : (listed.setIfInBounds 0 true).getD 9 false = listed.getD 9 false := getD_set_ne _ (by decide)
              have g12 : (listed.setIfInBounds 0 true).getD 12 false = listed.getD 12 false := getD_set_ne _ (by decide)
              have HVB := Lib.hid hvb
              clear hi hdep hvb
              refine vf_wpOpP_of rfl rfl ?_
              go_simp
              exact hK _ _ ⟨(.pointer (some ⟨g, m, none⟩)), _, _, _, _, _, _, _, _, _, _, _, rfl, by simpa using hsz, fun _ => rfl, fun h => by first | exact f1 (vf_listed_ne (by decide) h) | rfl, fun h => by first | exact f2 (vf_listed_ne (by decide) h) | rfl, fun h => by first | exact f3 (vf_listed_ne (by decide) h) | rfl, fun h => by first | exact f4 (vf_listed_ne (by decide) h) | rfl, fun h => by first | exact f5 (vf_listed_ne (by decide) h) | rfl, fun h => by first | exact f6 (vf_listed_ne (by decide) h) | rfl, fun h => by first | exact f7 (vf_listed_ne (by decide) h) | rfl, fun h => by first | exact f10 (vf_listed_ne (by decide) h) | rfl, fun h => by first | exact f11 (vf_listed_ne (by decide) h) | rfl, fun h => vf_listed_keep (o2 (vf_listed_ne (by decide) h)), fun h => vf_listed_keep (o3 (vf_listed_ne (by decide) h)), fun h => vf_listed_keep (o4 (vf_listed_ne (by decide) h)), fun h => vf_listed_keep (o6 (vf_listed_ne (by decide) h)), fun h => vf_listed_keep (o7 (vf_listed_ne (by decide) h)), fun h => vf_listed_keep (o8 (vf_listed_ne (by decide) h)), fun h => by have q := o9 (vf_listed_ne (by decide) h); exact ⟨vf_listed_keep q.1, vf_listed_keep q.2⟩, fun h => vf_listed_keep (o10 (vf_listed_ne (by decide) h)), fun h => vf_listed_keep (o11 (vf_listed_ne (by decide) h)), fun h => by have q := o12 (vf_listed_ne (by decide) h); exact ⟨vf_listed_keep q.1, vf_listed_keep q.2⟩, by rw [g8, g9, g12]; exact HVB.out⟩
            · injection ho with ho
              subst ho
              have g8 : (listed.setIfInBounds 1 true).getD 8 false = listed.getD 8 false := getD_set_ne _ (by decide)
              have g9 : (listed.setIfInBounds 1 true).getD 9 false = listed.getD 9 false := getD_set_ne _ (by decide)
              have g12 : (listed.setIfInBounds 1 true).getD 12 false = listed.getD 12 false := getD_set_ne _ (by decide)
              have HVB := Lib.hid hvb
              clear hi hdep hvb
              refine vf_wpOpP_of rfl rfl ?_
              go_simp
              exact hK _ _ ⟨_, (.pointer (some ⟨g, m, none⟩)), _, _, _, _, _, _, _, _, _, _, rfl, by simpa using hsz, fun h => by first | exact f0 (vf_listed_ne (by decide) h) | rfl, fun _ => rfl, fun h => by first | exact f2 (vf_listed_ne (by decide) h) | rfl, fun h => by first | exact f3 (vf_listed_ne (by decide) h) | rfl, fun h => by first | exact f4 (vf_listed_ne (by decide) h) | rfl, fun h => by first | exact f5 (vf_listed_ne (by decide) h) | rfl, fun h => by first | exact f6 (vf_listed_ne (by decide) h) | rfl, fun h => by first | exact f7 (vf_listed_ne (by decide) h) | rfl, fun h => by first | exact f10 (vf_listed_ne (by decide) h) | rfl, fun h => by first | exact f11 (vf_listed_ne (by decide) h) | rfl, fun h => vf_listed_keep (o2 (vf_listed_ne (by decide) h)), fun h => vf_listed_keep (o3 (vf_listed_ne (by decide) h)), fun h => vf_listed_keep (o4 (vf_listed_ne (by decide) h)), fun h => vf_listed_keep (o6 (vf_listed_ne (by decide) h)), fun h => vf_listed_keep (o7 (vf_listed_ne (by decide) h)), fun h => vf_listed_keep (o8 (vf_listed_ne (by decide) h)), fun h => by have q := o9 (vf_listed_ne (by decide) h); exact ⟨vf_listed_keep q.1, vf_listed_keep q.2⟩, fun h => vf_listed_keep (o10 (vf_listed_ne (by decide) h)), fun h => vf_listed_keep (o11 (vf_listed_ne (by decide) h)), fun h => by have q := o12 (vf_listed_ne (by decide) h); exact ⟨vf_listed_keep q.1, vf_listed_keep q.2⟩, by rw [g8, g9, g12]; exact HVB.out⟩
            · injection ho with ho
              subst ho
              have d1 := hdep ⟨1, .data⟩ (by simp) rfl
              have g8 : (listed.setIfInBounds 2 true).getD 8 false = listed.getD 8 false := getD_set_ne _ (by decide)
              have g9 : (listed.setIfInBounds 2 true).getD 9 false = listed.getD 9 false := getD_set_ne _ (by decide)
              have g12 : (listed.setIfInBounds 2 true).getD 12 false = listed.getD 12 false := getD_set_ne _ (by decide)
              obtain rfl := f1 d1
              have HVB := Lib.hid hvb
              clear hi hdep hvb
              refine vf_wpOpP_of rfl rfl ?_
              go_simp
              exact hK _ _ ⟨_, _, (.pointer (some ⟨g, m, none⟩)), _, _, _, _, _, _, _, _, _, rfl, by simpa using hsz, fun h => by first | exact f0 (vf_listed_ne (by decide) h) | rfl, fun h => by first | exact f1 (vf_listed_ne (by decide) h) | rfl, fun _ => rfl, fun h => by first | exact f3 (vf_listed_ne (by decide) h) | rfl, fun h => by first | exact f4 (vf_listed_ne (by decide) h) | rfl, fun h => by first | exact f5 (vf_listed_ne (by decide) h) | rfl, fun h => by first | exact f6 (vf_listed_ne (by decide) h) | rfl, fun h => by first | exact f7 (vf_listed_ne (by decide) h) | rfl, fun h => by first | exact f10 (vf_listed_ne (by decide) h) | rfl, fun h => by first | exact f11 (vf_listed_ne (by decide) h) | rfl, fun _ => vf_listed_keep d1, fun h => vf_listed_keep (o3 (vf_listed_ne (by decide) h)), fun h => vf_listed_keep (o4 (vf_listed_ne (by decide) h)), fun h => vf_listed_keep (o6 (vf_listed_ne (by decide) h)), fun h => vf_listed_keep (o7 (vf_listed_ne (by decide) h)), fun h => vf_listed_keep (o8 (vf_listed_ne (by decide) h)), fun h => by have q := o9 (vf_listed_ne (by decide) h); exact ⟨vf_listed_keep q.1, vf_listed_keep q.2⟩, fun h => vf_listed_keep (o10 (vf_listed_ne (by decide) h)), fun h => vf_listed_keep (o11 (vf_listed_ne (by decide) h)), fun h => by have q := o12 (vf_listed_ne (by decide) h); exact ⟨vf_listed_keep q.1, vf_listed_keep q.2⟩, by rw [g8, g9, g12]; exact HVB.out⟩
            · injection ho with ho
              subst ho
              have d2 := hdep ⟨2, .data⟩ (by simp) rfl
              have g8 : (listed.setIfInBounds 3 true).getD 8 false = listed.getD 8 false := getD_set_ne _ (by decide)
              have g9 : (listed.setIfInBounds 3 true).getD 9 false = listed.getD 9 false := getD_set_ne _ (by decide)
              have g12 : (listed.setIfInBounds 3 true).getD 12 false = listed.getD 12 false := getD_set_ne _ (by decide)
              obtain rfl := f2 d2
              have HVB := Lib.hid hvb
              clear hi hdep hvb
              refine vf_wpOpP_of rfl rfl ?_
              go_simp
              exact hK _ _ ⟨_, _, _, (.pointer (some ⟨g, m, none⟩)), _, _, _, _, _, _, _, _, rfl, by simpa using hsz, fun h => by first | exact f0 (vf_listed_ne (by decide) h) | rfl, fun h => by first | exact f1 (vf_listed_ne (by decide) h) | rfl, fun h => by first | exact f2 (vf_listed_ne (by decide) h) | rfl, fun _ => rfl, fun h => by first | exact f4 (vf_listed_ne (by decide) h) | rfl, fun h => by first | exact f5 (vf_listed_ne (by decide) h) | rfl, fun h => by first | exact f6 (vf_listed_ne (by decide) h) | rfl, fun h => by first | exact f7 (vf_listed_ne (by decide) h) | rfl, fun h => by first | exact f10 (vf_listed_ne (by decide) h) | rfl, fun h => by first | exact f11 (vf_listed_ne (by decide) h) | rfl, fun h => vf_listed_keep (o2 (vf_listed_ne (by decide) h)), fun _ => vf_listed_keep d2, fun h => vf_listed_keep (o4 (vf_listed_ne (by decide) h)), fun h => vf_listed_keep (o6 (vf_listed_ne (by decide) h)), fun h => vf_listed_keep (o7 (vf_listed_ne (by decide) h)), fun h => vf_listed_keep (o8 (vf_listed_ne (by decide) h)), fun h => by have q := o9 (vf_listed_ne (by decide) h); exact ⟨vf_listed_keep q.1, vf_listed_keep q.2⟩, fun h => vf_listed_keep (o10 (vf_listed_ne (by decide) h)), fun h => vf_listed_keep (o11 (vf_listed_ne (by decide) h)), fun h => by have q := o12 (vf_listed_ne (by decide) h); exact ⟨vf_listed_keep q.1, vf_listed_keep q.2⟩, by rw [g8, g9, g12]; exact HVB.out⟩
            · injection ho with ho
              subst ho
              have d3 := hdep ⟨3, .data⟩ (by simp) rfl
              have g8 : (listed.setIfInBounds 4 true).getD 8 false = listed.getD 8 false := getD_set_ne _ (by decide)
              have g9 : (listed.setIfInBounds 4 true).getD 9 false = listed.getD 9 false := getD_set_ne _ (by decide)
              have g12 : (listed.setIfInBounds 4 true).getD 12 false = listed.getD 12 false := getD_set_ne _ (by decide)
              obtain rfl := f3 d3
              have n12 : listed.getD 12 false = false := by
                cases h : listed.getD 12 false with
                | false => rfl
                | true => have q := (o9 (o12 h).1).1; rw [hno] at q; cases q
              rw [n12] at hvb
              have k4 : w'.cell? ⟨g, m, none⟩ = some (.slice ua rl uc) := cell_heap (hvb.box rfl) HCQ.out
              have HVB := Lib.hid hvb
              clear hi hdep hvb
              refine vf_wpOpP_of rfl rfl ?_
              go_simp
              exact hK _ _ ⟨_, _, _, _, (.slice ua rl uc), _, _, _, _, _, _, _, rfl, by simpa using hsz, fun h => by first | exact f0 (vf_listed_ne (by decide) h) | rfl, fun h => by first | exact f1 (vf_listed_ne (by decide) h) | rfl, fun h => by first | exact f2 (vf_listed_ne (by decide) h) | rfl, fun h => by first | exact f3 (vf_listed_ne (by decide) h) | rfl, fun _ => rfl, fun h => by first | exact f5 (vf_listed_ne (by decide) h) | rfl, fun h => by first | exact f6 (vf_listed_ne (by decide) h) | rfl, fun h => by first | exact f7 (vf_listed_ne (by decide) h) | rfl, fun h => by first | exact f10 (vf_listed_ne (by decide) h) | rfl, fun h => by first | exact f11 (vf_listed_ne (by decide) h) | rfl, fun h => vf_listed_keep (o2 (vf_listed_ne (by decide) h)), fun h => vf_listed_keep (o3 (vf_listed_ne (by decide) h)), fun _ => vf_listed_keep d3, fun h => vf_listed_keep (o6 (vf_listed_ne (by decide) h)), fun h => vf_listed_keep (o7 (vf_listed_ne (by decide) h)), fun h => vf_listed_keep (o8 (vf_listed_ne (by decide) h)), fun h => by have q := o9 (vf_listed_ne (by decide) h); exact ⟨vf_listed_keep q.1, vf_listed_keep q.2⟩, fun h => vf_listed_keep (o10 (vf_listed_ne (by decide) h)), fun h => vf_listed_keep (o11 (vf_listed_ne (by decide) h)), fun h => by have q := o12 (vf_listed_ne (by decide) h); exact ⟨vf_listed_keep q.1, vf_listed_keep q.2⟩, by rw [g8, g9, g12, n12]; exact HVB.out⟩
            · injection ho with ho
              subst ho
              have g8 : (listed.setIfInBounds 5 true).getD 8 false = listed.getD 8 false := getD_set_ne _ (by decide)
              have g9 : (listed.setIfInBounds 5 true).getD 9 false = listed.getD 9 false := getD_set_ne _ (by decide)
              have g12 : (listed.setIfInBounds 5 true).getD 12 false = listed.getD 12 false := getD_set_ne _ (by decide)
              have HVB := Lib.hid hvb
              clear hi hdep hvb
              refine vf_wpOpP_of rfl rfl ?_
              go_simp
              exact hK _ _ ⟨_, _, _, _, _, (.pointer (some ⟨wr.heap.size, 3, none⟩)), _, _, _, _, _, _, rfl, by simpa using hsz, fun h => by first | exact f0 (vf_listed_ne (by decide) h) | rfl, fun h => by first | exact f1 (vf_listed_ne (by decide) h) | rfl, fun h => by first | exact f2 (vf_listed_ne (by decide) h) | rfl, fun h => by first | exact f3 (vf_listed_ne (by decide) h) | rfl, fun h => by first | exact f4 (vf_listed_ne (by decide) h) | rfl, fun _ => rfl, fun h => by first | exact f6 (vf_listed_ne (by decide) h) | rfl, fun h => by first | exact f7 (vf_listed_ne (by decide) h) | rfl, fun h => by first | exact f10 (vf_listed_ne (by decide) h) | rfl, fun h => by first | exact f11 (vf_listed_ne (by decide) h) | rfl, fun h => vf_listed_keep (o2 (vf_listed_ne (by decide) h)), fun h => vf_listed_keep (o3 (vf_listed_ne (by decide) h)), fun h => vf_listed_keep (o4 (vf_listed_ne (by decide) h)), fun h => vf_listed_keep (o6 (vf_listed_ne (by decide) h)), fun h => vf_listed_keep (o7 (vf_listed_ne (by decide) h)), fun h => vf_listed_keep (o8 (vf_listed_ne (by decide) h)), fun h => by have q := o9 (vf_listed_ne (by decide) h); exact ⟨vf_listed_keep q.1, vf_listed_keep q.2⟩, fun h => vf_listed_keep (o10 (vf_listed_ne (by decide) h)), fun h => vf_listed_keep (o11 (vf_listed_ne (by decide) h)), fun h => by have q := o12 (vf_listed_ne (by decide) h); exact ⟨vf_listed_keep q.1, vf_listed_keep q.2⟩, by rw [g8, g9, g12]; exact HVB.out⟩
            · injection ho with ho
              subst ho
              have d5 := hdep ⟨5, .data⟩ (by simp) rfl
              have g8 : (listed.setIfInBounds 6 true).getD 8 false = listed.getD 8 false := getD_set_ne _ (by decide)
              have g9 : (listed.setIfInBounds 6 true).getD 9 false = listed.getD 9 false := getD_set_ne _ (by decide)
              have g12 : (listed.setIfInBounds 6 true).getD 12 false = listed.getD 12 false := getD_set_ne _ (by decide)
              obtain rfl := f5 d5
              have n9 : listed.getD 9 false = false := by
                cases h : listed.getD 9 false with
                | false => rfl
                | true => have q := (o7 (o8 (o9 h).2)); rw [hno] at q; cases q
              rw [n9] at hvb
              have k6 := keepB (hvb.pre rfl).2.1 dt3
              have HVB := Lib.hid hvb
              clear hi hdep hvb
              refine vf_wpOpP_of rfl rfl ?_
              go_simp
              exact hK _ _ ⟨_, _, _, _, _, _, (.int .i64 x3), _, _, _, _, _, rfl, by simpa using hsz, fun h => by first | exact f0 (vf_listed_ne (by decide) h) | rfl, fun h => by first | exact f1 (vf_listed_ne (by decide) h) | rfl, fun h => by first | exact f2 (vf_listed_ne (by decide) h) | rfl, fun h => by first | exact f3 (vf_listed_ne (by decide) h) | rfl, fun h => by first | exact f4 (vf_listed_ne (by decide) h) | rfl, fun h => by first | exact f5 (vf_listed_ne (by decide) h) | rfl, fun _ => rfl, fun h => by first | exact f7 (vf_listed_ne (by decide) h) | rfl, fun h => by first | exact f10 (vf_listed_ne (by decide) h) | rfl, fun h => by first | exact f11 (vf_listed_ne (by decide) h) | rfl, fun h => vf_listed_keep (o2 (vf_listed_ne (by decide) h)), fun h => vf_listed_keep (o3 (vf_listed_ne (by decide) h)), fun h => vf_listed_keep (o4 (vf_listed_ne (by decide) h)), fun _ => vf_listed_keep d5, fun h => vf_listed_keep (o7 (vf_listed_ne (by decide) h)), fun h => vf_listed_keep (o8 (vf_listed_ne (by decide) h)), fun h => by have q := o9 (vf_listed_ne (by decide) h); exact ⟨vf_listed_keep q.1, vf_listed_keep q.2⟩, fun h => vf_listed_keep (o10 (vf_listed_ne (by decide) h)), fun h => vf_listed_keep (o11 (vf_listed_ne (by decide) h)), fun h => by have q := o12 (vf_listed_ne (by decide) h); exact ⟨vf_listed_keep q.1, vf_listed_keep q.2⟩, by rw [g8, g9, g12, n9]; exact HVB.out⟩
            · injection ho with ho
              subst ho
              have d6 := hdep ⟨6, .data⟩ (by simp) rfl
              have g8 : (listed.setIfInBounds 7 true).getD 8 false = listed.getD 8 false := getD_set_ne _ (by decide)
              have g9 : (listed.setIfInBounds 7 true).getD 9 false = listed.getD 9 false := getD_set_ne _ (by decide)
              have g12 : (listed.setIfInBounds 7 true).getD 12 false = listed.getD 12 false := getD_set_ne _ (by decide)
              obtain rfl := f6 d6
              obtain ⟨hwx, hix⟩ := HXW.out
              have HVB := Lib.hid hvb
              clear hi hdep hvb
              refine vf_wpOpP_of rfl rfl ?_
              go_simp
              exact hK _ _ ⟨_, _, _, _, _, _, _, (.int .i64 X), _, _, _, _, rfl, by simpa using hsz, fun h => by first | exact f0 (vf_listed_ne (by decide) h) | rfl, fun h => by first | exact f1 (vf_listed_ne (by decide) h) | rfl, fun h => by first | exact f2 (vf_listed_ne (by decide) h) | rfl, fun h => by first | exact f3 (vf_listed_ne (by decide) h) | rfl, fun h => by first | exact f4 (vf_listed_ne (by decide) h) | rfl, fun h => by first | exact f5 (vf_listed_ne (by decide) h) | rfl, fun h => by first | exact f6 (vf_listed_ne (by decide) h) | rfl, fun _ => rfl, fun h => by first | exact f10 (vf_listed_ne (by decide) h) | rfl, fun h => by first | exact f11 (vf_listed_ne (by decide) h) | rfl, fun h => vf_listed_keep (o2 (vf_listed_ne (by decide) h)), fun h => vf_listed_keep (o3 (vf_listed_ne (by decide) h)), fun h => vf_listed_keep (o4 (vf_listed_ne (by decide) h)), fun h => vf_listed_keep (o6 (vf_listed_ne (by decide) h)), fun _ => vf_listed_keep d6, fun h => vf_listed_keep (o8 (vf_listed_ne (by decide) h)), fun h => by have q := o9 (vf_listed_ne (by decide) h); exact ⟨vf_listed_keep q.1, vf_listed_keep q.2⟩, fun h => vf_listed_keep (o10 (vf_listed_ne (by decide) h)), fun h => vf_listed_keep (o11 (vf_listed_ne (by decide) h)), fun h => by have q := o12 (vf_listed_ne (by decide) h); exact ⟨vf_listed_keep q.1, vf_listed_keep q.2⟩, by rw [g8, g9, g12]; exact HVB.out⟩
            · injection ho with ho
              subst ho
              have d7 := hdep ⟨7, .data⟩ (by simp) rfl
              have g8 : (listed.setIfInBounds 8 true).getD 8 false = true := hself
              have g9 : (listed.setIfInBounds 8 true).getD 9 false = listed.getD 9 false := getD_set_ne _ (by decide)
              have g12 : (listed.setIfInBounds 8 true).getD 12 false = listed.getD 12 false := getD_set_ne _ (by decide)
              obtain rfl := f7 d7
              have n9 : listed.getD 9 false = false := by
                cases h : listed.getD 9 false with
                | false => rfl
                | true => have q := (o9 h).2; rw [hno] at q; cases q
              rw [n9, hno] at hvb
              have HVB := Lib.hid hvb
              clear hi hdep hvb
              refine vf_wpOpP_of rfl rfl ?_
              go_simp
              exact hK _ _ ⟨_, _, _, _, _, _, _, _, _, _, _, _, rfl, by simpa using hsz, fun h => by first | exact f0 (vf_listed_ne (by decide) h) | rfl, fun h => by first | exact f1 (vf_listed_ne (by decide) h) | rfl, fun h => by first | exact f2 (vf_listed_ne (by decide) h) | rfl, fun h => by first | exact f3 (vf_listed_ne (by decide) h) | rfl, fun h => by first | exact f4 (vf_listed_ne (by decide) h) | rfl, fun h => by first | exact f5 (vf_listed_ne (by decide) h) | rfl, fun h => by first | exact f6 (vf_listed_ne (by decide) h) | rfl, fun h => by first | exact f7 (vf_listed_ne (by decide) h) | rfl, fun h => by first | exact f10 (vf_listed_ne (by decide) h) | rfl, fun h => by first | exact f11 (vf_listed_ne (by decide) h) | rfl, fun h => vf_listed_keep (o2 (vf_listed_ne (by decide) h)), fun h => vf_listed_keep (o3 (vf_listed_ne (by decide) h)), fun h => vf_listed_keep (o4 (vf_listed_ne (by decide) h)), fun h => vf_listed_keep (o6 (vf_listed_ne (by decide) h)), fun h => vf_listed_keep (o7 (vf_listed_ne (by decide) h)), fun _ => vf_listed_keep d7, fun h => by have q := o9 (vf_listed_ne (by decide) h); exact ⟨vf_listed_keep q.1, vf_listed_keep q.2⟩, fun h => vf_listed_keep (o10 (vf_listed_ne (by decide) h)), fun h => vf_listed_keep (o11 (vf_listed_ne (by decide) h)), fun h => by have q := o12 (vf_listed_ne (by decide) h); exact ⟨vf_listed_keep q.1, vf_listed_keep q.2⟩, by rw [g8, g9, g12, n9]; exact HVB.out.built⟩
            · injection ho with ho
              subst ho
              have d4 := hdep ⟨4, .data⟩ (by simp) rfl
              have d8 := hdep ⟨8, .data⟩ (by simp) rfl
              have g8 : (listed.setIfInBounds 9 true).getD 8 false = listed.getD 8 false := getD_set_ne _ (by decide)
              have g9 : (listed.setIfInBounds 9 true).getD 9 false = true := hself
              have g12 : (listed.setIfInBounds 9 true).getD 12 false = listed.getD 12 false := getD_set_ne _ (by decide)
              obtain rfl := f4 d4
              have n12 : listed.getD 12 false = false := by
                cases h : listed.getD 12 false with
                | false => rfl
                | true => have q := (o12 h).1; rw [hno] at q; cases q
              rw [n12, d8, hno] at hvb
              obtain ⟨v10, w10, hrun10, hvb10⟩ := hvb.appd (by rw [HRL.out]; exact HLS.out) (by have := HB9.out.size; omega) (by rw [HRL.out]; omega) 22
              refine vf_wpOpP_of rfl rfl ?_
              refine wp_append_run (.tmp 71) (.tmp 75) 22 22 rfl _ _ rfl rfl hrun10 ?_
              exact hK _ _ ⟨_, _, _, _, _, _, _, _, _, (v10), _, _, rfl, by simpa using hsz, fun h => by first | exact f0 (vf_listed_ne (by decide) h) | rfl, fun h => by first | exact f1 (vf_listed_ne (by decide) h) | rfl, fun h => by first | exact f2 (vf_listed_ne (by decide) h) | rfl, fun h => by first | exact f3 (vf_listed_ne (by decide) h) | rfl, fun h => by first | exact f4 (vf_listed_ne (by decide) h) | rfl, fun h => by first | exact f5 (vf_listed_ne (by decide) h) | rfl, fun h => by first | exact f6 (vf_listed_ne (by decide) h) | rfl, fun h => by first | exact f7 (vf_listed_ne (by decide) h) | rfl, fun h => by first | exact f10 (vf_listed_ne (by decide) h) | rfl, fun h => by first | exact f11 (vf_listed_ne (by decide) h) | rfl, fun h => vf_listed_keep (o2 (vf_listed_ne (by decide) h)), fun h => vf_listed_keep (o3 (vf_listed_ne (by decide) h)), fun h => vf_listed_keep (o4 (vf_listed_ne (by decide) h)), fun h => vf_listed_keep (o6 (vf_listed_ne (by decide) h)), fun h => vf_listed_keep (o7 (vf_listed_ne (by decide) h)), fun h => vf_listed_keep (o8 (vf_listed_ne (by decide) h)), fun _ => ⟨vf_listed_keep d4, vf_listed_keep d8⟩, fun h => vf_listed_keep (o10 (vf_listed_ne (by decide) h)), fun h => vf_listed_keep (o11 (vf_listed_ne (by decide) h)), fun h => by have q := o12 (vf_listed_ne (by decide) h); exact ⟨vf_listed_keep q.1, vf_listed_keep q.2⟩, by rw [g8, g9, g12, n12, d8]; exact hvb10⟩
            · injection ho with ho
              subst ho
              have d0 := hdep ⟨0, .data⟩ (by simp) rfl
              have g8 : (listed.setIfInBounds 10 true).getD 8 false = listed.getD 8 false := getD_set_ne _ (by decide)
              have g9 : (listed.setIfInBounds 10 true).getD 9 false = listed.getD 9 false := getD_set_ne _ (by decide)
              have g12 : (listed.setIfInBounds 10 true).getD 12 false = listed.getD 12 false := getD_set_ne _ (by decide)
              obtain rfl := f0 d0
              have HVB := Lib.hid hvb
              clear hi hdep hvb
              refine vf_wpOpP_of rfl rfl ?_
              go_simp
              exact hK _ _ ⟨_, _, _, _, _, _, _, _, _, _, (.pointer (some ⟨g, m, none⟩)), _, rfl, by simpa using hsz, fun h => by first | exact f0 (vf_listed_ne (by decide) h) | rfl, fun h => by first | exact f1 (vf_listed_ne (by decide) h) | rfl, fun h => by first | exact f2 (vf_listed_ne (by decide) h) | rfl, fun h => by first | exact f3 (vf_listed_ne (by decide) h) | rfl, fun h => by first | exact f4 (vf_listed_ne (by decide) h) | rfl, fun h => by first | exact f5 (vf_listed_ne (by decide) h) | rfl, fun h => by first | exact f6 (vf_listed_ne (by decide) h) | rfl, fun h => by first | exact f7 (vf_listed_ne (by decide) h) | rfl, fun _ => rfl, fun h => by first | exact f11 (vf_listed_ne (by decide) h) | rfl, fun h => vf_listed_keep (o2 (vf_listed_ne (by decide) h)), fun h => vf_listed_keep (o3 (vf_listed_ne (by decide) h)), fun h => vf_listed_keep (o4 (vf_listed_ne (by decide) h)), fun h => vf_listed_keep (o6 (vf_listed_ne (by decide) h)), fun h => vf_listed_keep (o7 (vf_listed_ne (by decide) h)), fun h => vf_listed_keep (o8 (vf_listed_ne (by decide) h)), fun h => by have q := o9 (vf_listed_ne (by decide) h); exact ⟨vf_listed_keep q.1, vf_listed_keep q.2⟩, fun _ => vf_listed_keep d0, fun h => vf_listed_keep (o11 (vf_listed_ne (by decide) h)), fun h => by have q := o12 (vf_listed_ne (by decide) h); exact ⟨vf_listed_keep q.1, vf_listed_keep q.2⟩, by rw [g8, g9, g12]; exact HVB.out⟩
            · injection ho with ho
              subst ho
              have d10 := hdep ⟨10, .data⟩ (by simp) rfl
              have g8 : (listed.setIfInBounds 11 true).getD 8 false = listed.getD 8 false := getD_set_ne _ (by decide)
              have g9 : (listed.setIfInBounds 11 true).getD 9 false = listed.getD 9 false := getD_set_ne _ (by decide)
              have g12 : (listed.setIfInBounds 11 true).getD 12 false = listed.getD 12 false := getD_set_ne _ (by decide)
              obtain rfl := f10 d10
              have HVB := Lib.hid hvb
              clear hi hdep hvb
              refine vf_wpOpP_of rfl rfl ?_
              go_simp
              exact hK _ _ ⟨_, _, _, _, _, _, _, _, _, _, _, (.pointer (some ⟨g, m, none⟩)), rfl, by simpa using hsz, fun h => by first | exact f0 (vf_listed_ne (by decide) h) | rfl, fun h => by first | exact f1 (vf_listed_ne (by decide) h) | rfl, fun h => by first | exact f2 (vf_listed_ne (by decide) h) | rfl, fun h => by first | exact f3 (vf_listed_ne (by decide) h) | rfl, fun h => by first | exact f4 (vf_listed_ne (by decide) h) | rfl, fun h => by first | exact f5 (vf_listed_ne (by decide) h) | rfl, fun h => by first | exact f6 (vf_listed_ne (by decide) h) | rfl, fun h => by first | exact f7 (vf_listed_ne (by decide) h) | rfl, fun h => by first | exact f10 (vf_listed_ne (by decide) h) | rfl, fun _ => rfl, fun h => vf_listed_keep (o2 (vf_listed_ne (by decide) h)), fun h => vf_listed_keep (o3 (vf_listed_ne (by decide) h)), fun h => vf_listed_keep (o4 (vf_listed_ne (by decide) h)), fun h => vf_listed_keep (o6 (vf_listed_ne (by decide) h)), fun h => vf_listed_keep (o7 (vf_listed_ne (by decide) h)), fun h => vf_listed_keep (o8 (vf_listed_ne (by decide) h)), fun h => by have q := o9 (vf_listed_ne (by decide) h); exact ⟨vf_listed_keep q.1, vf_listed_keep q.2⟩, fun h => vf_listed_keep (o10 (vf_listed_ne (by decide) h)), fun _ => vf_listed_keep d10, fun h => by have q := o12 (vf_listed_ne (by decide) h); exact ⟨vf_listed_keep q.1, vf_listed_keep q.2⟩, by rw [g8, g9, g12]; exact HVB.out⟩
            · injection ho with ho
              subst ho
              have d9 := hdep ⟨9, .data⟩ (by simp) rfl
              have d11 := hdep ⟨11, .data⟩ (by simp) rfl
              have g8 : (listed.setIfInBounds 12 true).getD 8 false = listed.getD 8 false := getD_set_ne _ (by decide)
              have g9 : (listed.setIfInBounds 12 true).getD 9 false = listed.getD 9 false := getD_set_ne _ (by decide)
              have g12 : (listed.setIfInBounds 12 true).getD 12 false = true := hself
              obtain rfl := f11 d11
              have d8 := (o9 d9).2
              rw [d9, d8, hno] at hvb
              obtain ⟨na, nc, rfl⟩ := own_sl (hvb.app rfl rfl).2.1
              have k12 : w'.cell? ⟨g, m, none⟩ = some (.slice ua rl uc) := cell_heap (hvb.box rfl) HCQ.out
              have kf : w'.frozen? ⟨g, m, none⟩ = false := frozen_of_row w' _ _ _ _ (hvb.box rfl)
              have kz : g < w'.heap.size := (Array.getElem?_eq_some_iff.1 (hvb.box rfl)).1
              have HVB := Lib.hid hvb
              clear hi hdep hvb
              refine vf_wpOpP_of rfl rfl ?_
              go_simp
              exact hK _ _ ⟨_, _, _, _, _, _, _, _, _, _, _, _, rfl, by simpa using hsz, fun h => by first | exact f0 (vf_listed_ne (by decide) h) | rfl, fun h => by first | exact f1 (vf_listed_ne (by decide) h) | rfl, fun h => by first | exact f2 (vf_listed_ne (by decide) h) | rfl, fun h => by first | exact f3 (vf_listed_ne (by decide) h) | rfl, fun h => by first | exact f4 (vf_listed_ne (by decide) h) | rfl, fun h => by first | exact f5 (vf_listed_ne (by decide) h) | rfl, fun h => by first | exact f6 (vf_listed_ne (by decide) h) | rfl, fun h => by first | exact f7 (vf_listed_ne (by decide) h) | rfl, fun h => by first | exact f10 (vf_listed_ne (by decide) h) | rfl, fun h => by first | exact f11 (vf_listed_ne (by decide) h) | rfl, fun h => vf_listed_keep (o2 (vf_listed_ne (by decide) h)), fun h => vf_listed_keep (o3 (vf_listed_ne (by decide) h)), fun h => vf_listed_keep (o4 (vf_listed_ne (by decide) h)), fun h => vf_listed_keep (o6 (vf_listed_ne (by decide) h)), fun h => vf_listed_keep (o7 (vf_listed_ne (by decide) h)), fun h => vf_listed_keep (o8 (vf_listed_ne (by decide) h)), fun h => by have q := o9 (vf_listed_ne (by decide) h); exact ⟨vf_listed_keep q.1, vf_listed_keep q.2⟩, fun h => vf_listed_keep (o10 (vf_listed_ne (by decide) h)), fun h => vf_listed_keep (o11 (vf_listed_ne (by decide) h)), fun _ => ⟨vf_listed_keep d9, vf_listed_keep d11⟩, by rw [g8, g9, g12, d9, d8]; exact HVB.out.stored⟩
          case fin =>
            rintro listed a' w' ⟨t67, t68, t69, t70, t71, t72, t73, t74, t75, t76, t77, t78, rfl, hsz, f0, f1, f2, f3, f4, f5, f6, f7, f10, f11, o2, o3, o4, o6, o7, o8, o9, o10, o11, o12, hvb⟩ hr
            have hfull := vf_ready_full hsz hr (by kernel_rfl)
            obtain rfl := f0 (hfull 0 (by decide))
            obtain rfl := f1 (hfull 1 (by decide))
            obtain rfl := f2 (hfull 2 (by decide))
            obtain rfl := f3 (hfull 3 (by decide))
            obtain rfl := f4 (hfull 4 (by decide))
            obtain rfl := f5 (hfull 5 (by decide))
            obtain rfl := f6 (hfull 6 (by decide))
            obtain rfl := f7 (hfull 7 (by decide))
            obtain rfl := f10 (hfull 10 (by decide))
            obtain rfl := f11 (hfull 11 (by decide))
            rw [hfull 8 (by decide), hfull 9 (by decide), hfull 12 (by decide)] at hvb
            clear o2 o3 o4 o6 o7 o8 o9 o10 o11 o12 hfull hr hsz
            obtain ⟨v', hb', ho', hl', hz', e1, e2, e3, hf'⟩ := hvb.fin rfl
            have hst' := RkSt.more HVQ.out HST.out HCU.out hb' (by rw [HRL.out] at ho' ⊢; exact ho') hl' hz' hf'
            have hbb : Below w5.heap.size w5 w' := ⟨e1.trans HB9.out.os, e2.trans HB9.out.tape, e3.trans HB9.out.output, Nat.le_trans HB9.out.size hz', fun b hb => (hf' b (by have := HB9.out.size; omega) (by omega) (fun e => by have := (HLS.out.lt b e.symm).1; omega)).trans (HB9.out.block b hb)⟩
            have HFIN := Lib.hid (And.intro hst'.at_ hbb)
            clear hvb hb' ho' hl' hz' e1 e2 e3 hf' hst' hbb
            go_wp2
            go_roundw
            case rel => exact ⟨_, _, _, _, _, ⟨(j + 1) + 1, by omega, by go_num, ⟨_, by rw [HKK.out]; exact HFIN.out.1⟩, HFIN.out.2⟩, rfl, rfl, rfl, rfl, rfl⟩
            case measure => simp [intOf]; omega
    · have hkn : k = n := by omega
      subst hkn
      obtain ⟨wo, hwo⟩ : ∃ u, u = wr := ⟨wr, rfl⟩
      subst hwo
      obtain ⟨ra, rc, rfl⟩ := own_sl hrk.1
      have hSI : SlsI (fun _ => True) wo (.slice ra us.length rc) (rkT Q k) := ⟨us, Sl.own (P := fun _ => True) encV_len (by rw [flatV]; exact hrk.1) rfl (fun _ _ => trivial), hrk.2.1.mono fun _ _ _ => trivial⟩
      have hRK : RanksOk (rkT Q k) := by
        have := rkT_ranks (P := Q) (fun x hx => ⟨(HP.out x hx).a0, (HP.out x hx).a1⟩) (by have := HN.out; omega)
        rw [HN.out] at this; exact this
      have hA0 : 0 ≤ am / 1000 ∧ am / 1000 ≤ 1000000 := by omega
      have hdA : am.tdiv 1000 = am / 1000 := Int.tdiv_eq_ediv_of_nonneg (by omega)
      obtain ⟨hfl, -⟩ := srv_flat (rkT Q k) (am / 1000) hRK hA0.1 hA0.2
      obtain ⟨hrl, hrm⟩ := srv_rows (rkT Q k) (am / 1000) hRK hA0.1 hA0.2
      have hKK := KR.out k (by have := HN.out; omega)
      obtain ⟨R, hR⟩ : ∃ R, rkT Q k = R := ⟨_, rfl⟩
      rw [hR] at hSI hRK hfl hrl hrm hKK
      obtain ⟨A, hA⟩ : ∃ A, am / 1000 = A := ⟨_, rfl⟩
      rw [hA] at hA0 hdA hfl hrl hrm
      have KSV := Lib.hid (fun (U : World) (hU : Below wo.heap.size wo U) => serve_any A _ _ R U (hSI.below hU) hRK hA0.1 hA0.2)
      obtain ⟨V, hV⟩ : ∃ V, srvL A R = V := ⟨_, rfl⟩
      rw [hV] at KSV hfl hrl hrm
      have hVn : V.length ≤ 100 := by have := hKK.n; omega
      have hVk : ∀ g ∈ V, g.length ≤ 100 := fun g hg => by obtain ⟨r, hr, e⟩ := hrm g hg; have := hKK.l r hr; omega
      have hVe : ∀ g ∈ V, g ≠ [] := fun g hg e => by
        obtain ⟨r, hr, e2⟩ := hrm g hg
        rw [e] at e2
        exact hKK.ne r hr (List.eq_nil_of_length_eq_zero e2.symm)
      have KCC := Lib.hid (fun (U : World) (v : Value) (P : Nat → Prop) (hS : SlsI P U v V) => concat_any P v V U hS hVn hVk hVe)
      obtain ⟨F, hF⟩ : ∃ F, V.flatten = F := ⟨_, rfl⟩
      rw [hF] at KCC hfl
      have HFE := Lib.hid (show (srvL (am / 1000) (rkT Q Q.length)).flatten = F by rw [HN.out, hR, hA, hV, hF])
      have hFn : F.length = k := by rw [hfl.len, hKK.f]; simp; have := HN.out; omega
      have hFb : ∀ x ∈ F, 0 ≤ x ∧ x ≤ 1000000 := fun x hx => by
        obtain ⟨i, hi⟩ := List.mem_iff_getElem?.1 hx
        have hil : i < R.flatten.length := by rw [← hfl.len]; exact (List.getElem?_eq_some_iff.1 hi).1
        obtain ⟨y, hy, y0, y1⟩ := hfl.get (List.getElem?_eq_getElem hil)
        rw [hi] at hy; cases hy
        have hm : R.flatten[i] ∈ R.flatten := List.getElem_mem hil
        obtain ⟨r, hr, hxr⟩ := List.mem_flatten.1 hm
        have := hRK.b r hr _ hxr
        omega
      have HFN := Lib.hid hFn
      have HFB := Lib.hid hFb
      have HBR := Lib.hid hbr
      have HXR := Lib.hid ((hbr.block (w.heap.size + 1) (by omega)).trans HX5.out)
      have HSR := Lib.hid (HS5.out.below hbr)
      have HAA := Lib.hid (wzC A (by omega))
      obtain ⟨W, hW⟩ : ∃ W, W = wo.alloc (.cells #[.int .i64 0, .int .i64 0, .slice none 0 0] 33 (0, 0)) := ⟨_, rfl⟩
      have hbW : Below wo.heap.size wo W := by rw [hW]; exact bal brefl _
      have BW : W.heap[wo.heap.size]? = some (.cells #[.int .i64 0, .int .i64 0, .slice none 0 0] 33 (0, 0)) := by rw [hW]; exact heap_alloc_new wo _
      have zW : wo.heap.size < W.heap.size := (Array.getElem?_eq_some_iff.1 BW).1
      have HWW := Lib.hid hW
      have HBW := Lib.hid hbW
      have HBO := Lib.hid BW
      obtain ⟨haw, hai⟩ := HAA.out
      clear hSI hRK hfl hrl hrm hKK hV hVn hVk hVe hF hFn hFb hbr hW hbW BW hR hA hrk
      go_upto_region 18 with fail
      rw [← HWW.out]
      go_wp2_with fail
      clear haw hai hdA
      refine (KSV.out _ HBW.out).mono ?_
      rintro e w6 ⟨v6, rfl, hv6, hb6⟩
      have HBO6 := Lib.hid ((hb6.block _ zW).trans HBO.out)
      have HB6 := Lib.hid (bup HBW.out hb6)
      have z6 := hb6.size
      obtain ⟨qa, qn, qc, rfl, -, -, -⟩ := hv6.shape
      have HV6 := Lib.hid hv6
      clear hv6 hb6
      go_wp2_with fail
      refine (KCC.out _ _ _ HV6.out).mono ?_
      rintro e w7 ⟨v7, rfl, ho7, hb7⟩
      have z7 := hb7.size
      have HBO7 := Lib.hid ((hb7.block _ (by omega)).trans HBO6.out)
      have hB7 := bup HB6.out hb7
      have HXR7 := Lib.hid ((hB7.block _ (by have := HBR.out.size; omega)).trans HXR.out)
      have HSR7 := Lib.hid (HSR.out.below hB7)
      have HF7 := Lib.hid ((Sl.own (P := fun b => w6.heap.size ≤ b) encI_len ho7 rfl (fun _ h => h)))
      have HB7 := Lib.hid (HB5.out.trans ((HBR.out.trans (hB7.mono HBR.out.size)).mono (by omega)))
      obtain ⟨fa, fc, rfl⟩ := own_sl ho7
      rw [HFN.out] at HF7 ⊢
      have zr5 := HBR.out.size
      clear ho7 hb7 hB7 KSV KCC
      obtain ⟨i1, hi, hz0, hz1, hz2⟩ := info_parts infoAwd
      go_wp2
      go_loopw [86] (fun iv wq => ∃ (i : Nat) (av : Value), i ≤ k ∧ iv = .int .i64 i ∧ wq.heap[wo.heap.size]? = some (.cells #[.int .i64 (ctT Q F i), .int .i64 (slT F i), av] 33 (0, 0)) ∧ wq.ownsRow w7.heap.size 61 4 av (wdT Q F i).length (flatE encAwd (wdT Q F i)) ∧ w7.grownBy wq (some wo.heap.size)) (fun iv _ => k - (intOf iv).toNat)
      case atStart => exact ⟨0, .slice none 0 0, by omega, rfl, HBO7.out, World.ownsRow_nil _ _ _ _, ⟨rfl, rfl, rfl, Nat.le_refl _, fun _ _ _ => rfl⟩⟩
      case round =>
        obtain ⟨i, av, hik, rfl, hbx, haw, hgr⟩ := hrel
        have zg := hgr.size
        have hgB : ∀ b, w.heap.size + 2 ≤ b ∧ b < w5.heap.size → b ≠ wo.heap.size := fun b hb => by omega
        have hgF : ∀ b, w6.heap.size ≤ b → b ≠ wo.heap.size := fun b hb => by omega
        by_cases hit : i < k
        · obtain ⟨fb, foff, gq, rfl, -, hfz, hg, g0⟩ := (HF7.out.inRow hgr hgF).int hit
          obtain ⟨bb, off, x0, x1, x2, x3, rfl, -, hbb, hx, t0, t1, t2, t3⟩ := (HSR7.out.inRow hgr hgB).tdr hit
          have hiz : (i : Int) < (k : Int) := by omega
          obtain ⟨gg0, gg1⟩ := HFB.out gq (List.mem_of_getElem? hg)
          by_cases hg0 : gq = 0
          · subst hg0
            obtain ⟨e1, e2, e3⟩ := wdT_zero (P := Q) hg
            have HE := Lib.hid (And.intro e1 (And.intro e2 e3))
            have HFI := Lib.hid (And.intro hbx (And.intro haw hgr))
            clear e1 e2 e3 hbx haw hgr hg hx
            go_wp2
            go_roundw
            case rel => exact ⟨i + 1, av, by omega, by go_num, by rw [HE.out.2.1, HE.out.2.2]; exact HFI.out.1, by rw [HE.out.1]; exact HFI.out.2.1, HFI.out.2.2⟩
            case measure => simp [intOf]; omega
          · obtain ⟨e1, e2, e3⟩ := wdT_more hx hg hg0
            simp only at e1 e2
            have hg1 : (gq == 0) = false := by simpa using hg0
            have hwl := wdT_len Q F i
            obtain ⟨s0, s1⟩ := slT_bd HFB.out i
            obtain ⟨xs, hxs⟩ : ∃ xs, wdT Q F i = xs := ⟨_, rfl⟩
            obtain ⟨S0, hS0⟩ : ∃ s, slT F i = s := ⟨_, rfl⟩
            obtain ⟨C0, hC0⟩ : ∃ s, ctT Q F i = s := ⟨_, rfl⟩
            rw [hxs] at e1 hwl haw
            rw [hS0] at e3 s0 s1 hbx
            rw [hC0] at hbx
            obtain ⟨va, vc, rfl⟩ := own_sl haw
            have hS1 : 0 ≤ S0 ∧ S0 ≤ 100000000000 := by omega
            have HE := Lib.hid (And.intro e1 (And.intro e2 e3))
            have HW1 := Lib.hid (show wrap64 (gq * 1000) = gq * 1000 ∧ IntKind.i64.wrap (gq * 1000) = gq * 1000 from ⟨IntWalk.wrap64_in _ (by omega), IntWalk.i64_in _ (by omega)⟩)
            have HW2 := Lib.hid (show wrap64 (S0 + gq * 1000) = S0 + gq * 1000 ∧ IntKind.i64.wrap (S0 + gq * 1000) = S0 + gq * 1000 from ⟨IntWalk.wrap64_in _ (by omega), IntWalk.i64_in _ (by omega)⟩)
            obtain ⟨U1, hU1⟩ : ∃ W, W = wr.alloc (.cells #[.int .i64 x0, .int .i64 x1, .int .i64 x2, .int .i64 x3] 28 (0, 0)) := ⟨_, rfl⟩
            have hb1 : Below wr.heap.size wr U1 := by rw [hU1]; exact bal brefl _
            have T1 : U1.heap[wr.heap.size]? = some (.cells #[.int .i64 x0, .int .i64 x1, .int .i64 x2, .int .i64 x3] 28 (0, 0)) := by rw [hU1]; exact heap_alloc_new wr _
            have zB : wo.heap.size < wr.heap.size := (Array.getElem?_eq_some_iff.1 hbx).1
            have B1 := (hb1.block _ zB).trans hbx
            have o0 : U1.cell? ⟨wo.heap.size, 0, none⟩ = some (.int .i64 C0) := cell_heap B1 rfl
            have o1 : U1.cell? ⟨wo.heap.size, 1, none⟩ = some (.int .i64 S0) := cell_heap B1 rfl
            have bf : ∀ o, U1.frozen? ⟨wo.heap.size, o, none⟩ = false := fun o => frozen_of_row U1 _ _ _ _ B1
            have b2 : U1.cell? ⟨wr.heap.size, 2, none⟩ = some (.int .i64 x2) := cell_heap T1 rfl
            have z1 : wr.heap.size < U1.heap.size := (Array.getElem?_eq_some_iff.1 T1).1
            have z2 : wo.heap.size < U1.heap.size := by omega
            have hne : ¬ wo.heap.size = wr.heap.size := by omega
            have HU := Lib.hid hU1
            have HT1 := Lib.hid T1
            have HB1 := Lib.hid B1
            have HAW := Lib.hid (ownsRow_belowZ haw hb1)
            have HGR := Lib.hid (grownBy_trans hgr (show wr.grownBy U1 (some wo.heap.size) by rw [hU1]; exact World.grownBy_alloc _ _ _))
            clear e1 e2 e3 hxs hS0 hC0 hbx haw hgr hg hx hU1 hb1 T1 B1
            go_upto_region 23 with fail
            rw [← HU.out]
            clear t0 t1 t2 t3
            obtain ⟨hw1, hi1⟩ := HW1.out
            obtain ⟨hw2, hi2⟩ := HW2.out
            go_upto_region 24 with fail
            obtain ⟨U2, hU2⟩ : ∃ W, W = (U1.setCell ⟨wo.heap.size, 0, none⟩ (.int .i64 x2)).setCell ⟨wo.heap.size, 1, none⟩ (.int .i64 (S0 + gq * 1000)) := ⟨_, rfl⟩
            rw [← hU2]
            have B2 : U2.heap[wo.heap.size]? = some (.cells #[.int .i64 x2, .int .i64 (S0 + gq * 1000), .slice va xs.length vc] 33 (0, 0)) := by
              have q1 := heap_setCell_same U1 _ 0 _ _ (.int .i64 x2) HB1.out
              have q2 := heap_setCell_same _ _ 1 _ _ (.int .i64 (S0 + gq * 1000)) q1
              rw [hU2, q2]; rfl
            have T2 : U2.heap[wr.heap.size]? = some (.cells #[.int .i64 x0, .int .i64 x1, .int .i64 x2, .int .i64 x3] 28 (0, 0)) := by
              rw [hU2]; exact (Below.heap_setCell _ _ _ _ (by simp only; omega)).trans ((Below.heap_setCell _ _ _ _ (by simp only; omega)).trans HT1.out)
            have hO2 : U2.ownsRow w7.heap.size 61 4 (.slice va xs.length vc) xs.length (flatE encAwd xs) := by
              have q1 := heap_setCell_same U1 _ 0 _ _ (.int .i64 x2) HB1.out
              rw [hU2]; exact own_set (by decide) q1 (own_set (by decide) HB1.out HAW.out)
            have hG2 : w7.grownBy U2 (some wo.heap.size) := by rw [hU2]; exact grownBy_trans (grownBy_trans HGR.out (grownBy_setCell _ _ _ _)) (grownBy_setCell _ _ _ _)
            have zz2 : U2.heap.size = U1.heap.size := by rw [hU2]; simp [World.setCell]
            have o2 : U2.cell? ⟨wo.heap.size, 2, none⟩ = some (.slice va xs.length vc) := cell_heap B2 rfl
            have y0 : U2.cell? ⟨wr.heap.size, 0, none⟩ = some (.int .i64 x0) := cell_heap T2 rfl
            have y1 : U2.cell? ⟨wr.heap.size, 1, none⟩ = some (.int .i64 x1) := cell_heap T2 rfl
            have y2 : U2.cell? ⟨wr.heap.size, 2, none⟩ = some (.int .i64 x2) := cell_heap T2 rfl
            have z3 : wr.heap.size < U2.heap.size := by omega
            have z4 : wo.heap.size < U2.heap.size := by omega
            have z7U : w7.heap.size ≤ U2.heap.size := hG2.size
            have HB2 := Lib.hid B2
            have HO2 := Lib.hid hO2
            have HG2 := Lib.hid hG2
            have q1 : xs.length + 1 ≤ maxLen := by unfold maxLen; omega
            have q2 : (xs.length + 1) * 32 ≤ 140737488355328 := by omega
            clear hU2 B2 T2 hO2 hG2 o0 o1 bf b2 z1 z2 hw2 hi2 HW2 zz2
            go_wp2_with (at_builtin; go_must (refine wpList_append_own _ rfl _ _ 31 rfl w7.heap.size 61 i1 (.agg #[.int .i64 0, .int .i64 0, .int .i64 0, .int .i64 0]) 4 32 Try.underlying31 hi hz0 hz1 hz2 rfl (by decide) _ _ _ rfl (HO2.out.alloc _) ⟨_, 0, none⟩ 1 1 (encAwd ⟨x0, x1, gq * 1000, x2⟩) rfl rfl (newsAwd _ _ (by simp) x0 x1 (gq * 1000) x2) (oneAwd _) q1 q2 (Nat.le_trans z7U (by simp)) ?_); intro v' w9 hown' hgrow _; obtain ⟨vb, vd, rfl⟩ := own_sl hown'; have HB9 := Lib.hid ((hgrow.block wo.heap.size (by simp; omega) (own_neT (by decide) HB2.out HO2.out)).trans ((heap_alloc_old U2 _ z4).trans HB2.out)); have k2 : w9.cell? ⟨wo.heap.size, 2, none⟩ = some (.slice va xs.length vc) := cell_heap HB9.out rfl; have kf : w9.frozen? ⟨wo.heap.size, 2, none⟩ = false := frozen_of_row w9 _ _ _ _ HB9.out; have kz : wo.heap.size < w9.heap.size := (Array.getElem?_eq_some_iff.1 HB9.out).1; have HOW := Lib.hid hown'; have HGW := Lib.hid (grown_new (grownBy_trans HG2.out (World.grownBy_alloc U2 _ _)) hgrow (fun j hj => (HO2.out.lt j hj).1)); clear hown' hgrow)
            clear hw1 hi1 HW1
            go_roundw
            case rel => exact ⟨i + 1, .slice vb (xs.length + 1) vd, by omega, by go_num, by rw [HE.out.2.1, HE.out.2.2, heap_setCell_same _ _ 2 _ _ _ HB9.out]; rfl, by rw [HE.out.1, flatE_snoc, List.length_append]; exact own_set (by decide) HB9.out HOW.out, grownBy_trans HGW.out (grownBy_setCell _ _ _ _)⟩
            case measure => simp [intOf]; omega
        · have hki : i = k := by omega
          subst hki
          have hwl := wdT_len Q F i
          have hn12 : i ≤ 12 := by omega
          have KW := Lib.hid (sortW_own 26 #[] cmpW (fun _ => True) w7.heap.size av (wdT Q F i) wr egW (fun W x y _ _ => wcompare_any x.bd x.num x.a x.p y.bd y.num y.a y.p W) cmpW_wk (fun _ _ => trivial) haw (by omega))
          have zB : wo.heap.size < wr.heap.size := (Array.getElem?_eq_some_iff.1 hbx).1
          have hXr := (hgr.block (w.heap.size + 1) (by have := HB7.out.size; have := (Array.getElem?_eq_some_iff.1 HXR7.out).1; omega) (by simp; omega)).trans HXR7.out
          have hBr : Below w.heap.size w wr := HB7.out.grown hgr (HB7.out.size) (fun q hq => by cases hq; omega)
          obtain ⟨C9, hC9⟩ : ∃ c, ctT Q F i = c := ⟨_, rfl⟩
          obtain ⟨S9, hS9⟩ : ∃ c, slT F i = c := ⟨_, rfl⟩
          rw [hC9, hS9] at hbx
          obtain ⟨xs, hxs⟩ : ∃ xs, wdT Q F i = xs := ⟨_, rfl⟩
          rw [hxs] at KW haw hwl
          obtain ⟨va, vc, rfl⟩ := own_sl haw
          have hne : ∀ b, b < w7.heap.size → some b ≠ (Value.slice va xs.length vc).ownBlock := fun b hb e => by have := (haw.lt b e.symm).1; omega
          have zo7 : wo.heap.size < w7.heap.size := (Array.getElem?_eq_some_iff.1 HBO7.out).1
          have zx7 : w.heap.size + 1 < w7.heap.size := (Array.getElem?_eq_some_iff.1 HXR7.out).1
          have o2 : wr.cell? ⟨wo.heap.size, 2, none⟩ = some (.slice va xs.length vc) := cell_heap hbx rfl
          have HBX := Lib.hid hbx
          have HXX := Lib.hid hXr
          have HBB := Lib.hid hBr
          have HEQ := Lib.hid (And.intro hC9 (And.intro hS9 hxs))
          have hw7 := Lib.hid HB7.out.size
          clear hbx haw hgr hXr hBr hC9 hS9 hxs
          go_wp2_with fail
          refine KW.out.mono ?_
          rintro e w9 ⟨rfl, ho9, hg9⟩
          have hbx9 := (hg9.block wo.heap.size zB (hne _ zo7)).trans HBX.out
          have hxx9 := (hg9.block (w.heap.size + 1) (Array.getElem?_eq_some_iff.1 HXX.out).1 (hne _ zx7)).trans HXX.out
          have hbb9 := HBB.out.grown hg9 (by have := (Array.getElem?_eq_some_iff.1 HXX.out).1; omega) (fun q hq => by have h1 := hne q; have h2 := hw7.out; rcases Nat.lt_or_ge q w7.heap.size with h | h; (exact absurd hq.symm (h1 h)); omega)
          have r0 : w9.cell? ⟨wo.heap.size, 0, none⟩ = some (.int .i64 C9) := cell_heap hbx9 rfl
          have r1 : w9.cell? ⟨wo.heap.size, 1, none⟩ = some (.int .i64 S9) := cell_heap hbx9 rfl
          have r2 : w9.cell? ⟨wo.heap.size, 2, none⟩ = some (.slice va xs.length vc) := cell_heap hbx9 rfl
          have t0 : w9.cell? ⟨w.heap.size + 1, 0, none⟩ = some (.int .i64 0) := cell_heap hxx9 rfl
          have t1 : w9.cell? ⟨w.heap.size + 1, 1, none⟩ = some (.int .i64 0) := cell_heap hxx9 rfl
          have t2 : w9.cell? ⟨w.heap.size + 1, 2, none⟩ = some (.slice none 0 0) := cell_heap hxx9 rfl
          have tf : ∀ o, w9.frozen? ⟨w.heap.size + 1, o, none⟩ = false := fun o => frozen_of_row w9 _ _ _ _ hxx9
          have hzx : w.heap.size + 1 < w9.heap.size := (Array.getElem?_eq_some_iff.1 hxx9).1
          have hzo : wo.heap.size < w9.heap.size := (Array.getElem?_eq_some_iff.1 hbx9).1
          have hneq : ¬ wo.heap.size = w.heap.size + 1 := by omega
          have hf1 := own_set (o := 0) (u := .int .i64 C9) (by decide) hxx9 ho9
          have hR1 := heap_setCell_same w9 _ 0 _ _ (.int .i64 C9) hxx9
          have hf2 := own_set (o := 1) (u := .int .i64 S9) (by decide) hR1 hf1
          have hR2 := heap_setCell_same _ _ 1 _ _ (.int .i64 S9) hR1
          have hf3 := own_set (o := 2) (u := .slice va xs.length vc) (by decide) hR2 hf2
          have HFIN := Lib.hid (And.intro (ownsRow_baseZ hf3 (show w.heap.size ≤ w7.heap.size by omega)) (bset3 hbb9 (b := w.heap.size + 1) (by omega) (.int .i64 C9) (.int .i64 S9) (.slice va xs.length vc)))
          clear hbx9 hxx9 hbb9 hf1 hf2 hf3 hR1 hR2 ho9 hg9 hne
          go_wp2
          refine bodyPost_ret (v := .tuple #[.agg #[.int .i64 C9, .int .i64 S9, .slice va xs.length vc], .int .i64 0]) (by simp [results, Try.results9, go_sem, *]) rfl ⟨.slice va xs.length vc, by rw [HFE.out, HN.out, HEQ.out.1, HEQ.out.2.1], by rw [HFE.out, HN.out, HEQ.out.2.2, srt_length]; exact HFIN.out.1, HFIN.out.2⟩

end Go.Proofs.Ytkdbdncboljfhaa
