/- RegisterExact: the walk. Printed by wip/gen/l33ex.py. -/
import Derived.Test.YtpoidaenkjjdfaaZL33ExL
import Derived.Test.YtpoidaenkjjdfaaZL33ExW
import Derived.Deep.CutBlock
namespace Go.Proofs.Ytpoidaenkjjdfaa
open Go.RowKit
set_option linter.unusedVariables false
set_option linter.unusedSimpArgs false
set_option maxHeartbeats 64000000 in
set_option maxRecDepth 100000 in
theorem rexact_walk (k0 : Option Addr) (len0 cap0 : Nat) (vs vh vm : Value) (RR : Reg) (xid xun xis xma xra xev : Int) (xix : Bool) (day id ha hb hn : Int) (w : World) (h1 : len0 ≤ cap0) (h2 : cap0 ≤ maxLen) (hz : len0 = 0 ∨ ∃ b off, k0 = some ⟨b, off, none⟩ ∧ ∀ i, i < len0 → ∃ z : Int, w.cell? ⟨b, off + i, none⟩ = some (.int .i64 z)) (hr : RgIn (fun _ => True) w vs vh vm RR) (hnn : vs = .slice none 0 0 ∨ ∃ b off sp n c, vs = .slice (some ⟨b, off, sp⟩) n c) :
    Calls Try.prog 3 #[.slice k0 len0 cap0, .agg #[vs, vh, vm], .agg #[.int .i64 xid, .int .i64 xun, .int .i64 xis, .int .i64 xma, .int .i64 xra, .int .i64 xev, .bool xix], .int .i64 day, .int .i64 id, .int .i64 ha, .int .i64 hb, .int .i64 hn] w fun e w' => e = .returned (.bool true) ∧ Below w.heap.size w w' := by
  have hnz := nnS_raw hr hnn
  obtain ⟨r0, rn0, rc0, rfl, -, -, -⟩ := hr.S.shape
  obtain ⟨r1, rn1, rc1, rfl, -, -, -⟩ := hr.H.shape
  obtain ⟨r2, rn2, rc2, rfl, -, -, -⟩ := hr.M.shape
  have HSM := Lib.hid (fun W (hW : Below w.heap.size w W) => small33_any _ _ _ _ RR W (hr.below hW))
  have HNW := Lib.hid (fun W (hW : Below w.heap.size w W) => new_any k0 len0 cap0 W h1 h2 (hz.imp_right fun ⟨b, off, e, h⟩ => ⟨b, off, e, fun i hi => (h i hi).imp fun z hc => keepB hW hc⟩))
  have HRR := Lib.hid hr
  have HNZ := Lib.hid hnz
  obtain ⟨q, hq⟩ : ∃ q, smR RR = q := ⟨_, rfl⟩
  rw [hq] at HSM
  have HQ := Lib.hid hq
  clear hz hr hnz hnn hq
  go_enter Try.func3, Try.ntmps3
  go_wp2_with fail
  refine (HSM.out _ (bal (bal brefl _) _)).mono ?_
  rintro e w1 ⟨rfl, hb1⟩
  have hB1 : Below w.heap.size w w1 := bup (bal (bal brefl _) _) hb1
  have hx0 : w1.heap[w.heap.size]? = some (.cells #[.slice r0 rn0 rc0, .slice r1 rn1 rc1, .slice r2 rn2 rc2] 27 (0, 0)) := (hb1.block _ (by simp; omega)).trans ((heap_alloc_old _ _ (by simp)).trans (heap_alloc_new w _))
  have hx1 : w1.heap[w.heap.size + 1]? = some (.cells #[.int .i64 xid, .int .i64 xun, .int .i64 xis, .int .i64 xma, .int .i64 xra, .int .i64 xev, .bool xix] 29 (0, 0)) := (hb1.block _ (by simp)).trans (heap_at (by simp))
  have z1 : w.heap.size + 2 ≤ w1.heap.size := by have := hb1.size; simpa using this
  have HB1 := Lib.hid hB1
  have HX0 := Lib.hid hx0
  have HX1 := Lib.hid hx1
  clear hb1 hB1 hx0 hx1 HSM
  cases q
  · go_wp2_with fail
    refine (sane33_any _).mono ?_
    rintro e w2 ⟨rfl, hb2⟩
    go_wp2
    go_ret
    exact ⟨rfl, bup HB1.out hb2⟩
  have hlb : LB RR := by
    have h := HQ.out
    unfold smR at h
    rw [decide_eq_true_eq] at h
    exact ⟨by omega, by omega, by omega⟩
  have HLB := Lib.hid hlb
  clear hlb HQ
  go_wp2_with fail
  refine (HNW.out _ HB1.out).mono ?_
  rintro e w2 ⟨sb, rfl, hsb, hS2, hB2⟩
  have hlt := srcOk_lt hS2
  have hX0 := heap_bl hB2 HX0.out
  have hX1 := heap_bl hB2 HX1.out
  have HX0' := Lib.hid hX0
  have HX1' := Lib.hid hX1
  have HB2 := Lib.hid (bup HB1.out hB2)
  have z2 := hB2.size
  clear hX0 hX1 HX0 HX1 HB1 hB2 HNW
  go_wp2_with fail
  refine (sreg_any sb 10 w2 hS2 (by omega)).mono ?_
  rintro e w3 ⟨us, uh, um, R, now, rfl, hlike, hml, hdl, hR, hS3, hG3⟩
  have z3 := hG3.size
  obtain ⟨a0, n0, c0, rfl, -, -, -⟩ := hR.S.shape
  obtain ⟨a1, n1, c1, rfl, -, -, -⟩ := hR.H.shape
  obtain ⟨a2, n2, c2, rfl, -, -, -⟩ := hR.M.shape
  have HR3 := Lib.hid hR
  have HLIKE := Lib.hid hlike
  have hd0 := hlike.day0
  have HX0 := Lib.hid (heap_gr hG3 (by omega) HX0'.out)
  have HX1 := Lib.hid (heap_gr hG3 (by omega) HX1'.out)
  have HB3 := Lib.hid (HB2.out.trans (below_of_grown hG3 (by omega) HB2.out.size))
  clear hR hlike hG3 hS2 HX0' HX1' HB2
  go_wp2_with fail
  refine (range_any sb 1 5 _ (srcOk_alloc hS3 _) (by decide) (by decide) (by decide)).mono ?_
  rintro e w4 ⟨ov, hov, rfl, hS4, hG4⟩
  go_wp2_with fail
  refine (srcsec_any sb ov _ hS4).mono ?_
  rintro e w5 ⟨oun, ois, oma, ora, oev, oix, hol, rfl, hS5, hG5⟩
  have hg5 := grownBy_trans hG4 hG5
  have z5 := hg5.size
  have hst : RxS sb w.heap.size w3.heap.size w5.heap.size w w5 ⟨xid, xun, xis, xma, xra, xev, xix⟩ (.slice r0 rn0 rc0) (.slice r1 rn1 rc1) (.slice r2 rn2 rc2) (.slice a0 n0 c0) (.slice a1 n1 c1) (.slice a2 n2 c2) R :=
    ⟨heap_gr hg5 (by omega) ((heap_alloc_old _ _ (by omega)).trans HX0.out), heap_gr hg5 (by omega) ((heap_alloc_old _ _ (by omega)).trans HX1.out), heap_gr hg5 (by omega) (heap_alloc_new _ _),
     ((HR3.out.mono (Q := fun b => b ≠ sb ∧ b < w3.heap.size) (fun b h hl => ⟨by omega, hl⟩)).below (bal brefl _)).grown hg5 (fun b h => h.1) |>.mono (fun b h _ => ⟨h.1, by simp only [World.size_alloc] at z5; omega⟩), hS5, (bal HB3.out _).trans (below_of_grown hg5 (by omega) (by have := HB3.out.size; simp; omega)), by omega, by omega, by simp only [World.size_alloc] at z5; omega, Nat.le_refl _⟩
  have HST5 := Lib.hid hst
  clear hst hS3 hS4 hG4 hG5 hg5 HX0 HX1 HB3 HR3 hol hS5 z5
  go_upto_region 6 with fail
  obtain ⟨W5, hW5⟩ : ∃ X, w5.alloc (.cells #[.int .i64 ov, .int .i64 oun, .int .i64 ois, .int .i64 oma, .int .i64 ora, .int .i64 oev, .bool oix] 29 (0, 0)) = X := ⟨_, rfl⟩
  have hc5 : W5.heap[w5.heap.size]? = some (.cells #[.int .i64 ov, .int .i64 oun, .int .i64 ois, .int .i64 oma, .int .i64 ora, .int .i64 oev, .bool oix] 29 (0, 0)) := by rw [← hW5]; exact heap_alloc_new w5 _
  have hs5 : SrcOk W5 sb := by rw [← hW5]; exact srcOk_alloc HST5.out.so _
  have hst5 := HST5.out.grown (wy := W5) (by rw [← hW5]; exact World.grownBy_alloc _ _ _) hs5
  rw [hW5]
  clear hW5
  obtain ⟨C, hC⟩ : ∃ C, w5.heap.size = C := ⟨_, rfl⟩
  rw [hC] at hst5 hc5 ⊢
  clear hC
  refine kW (Lib.hid hst5) (Lib.hid hc5) (by assumption) ?_
  intros
  rename_i W8 hpost
  clear hst5 hc5 hs5 HST5
  obtain ⟨pun, pis, pma, pra, pev, hst, hC⟩ := hpost
  have HST8 := Lib.hid hst
  have HC8 := Lib.hid hC
  have b0 := cell_heap (i := 0) (HST8.out.b2) rfl; have b1 := cell_heap (i := 1) (HST8.out.b2) rfl; have b2 := cell_heap (i := 2) (HST8.out.b2) rfl
  have q0 := cell_heap (i := 0) (HST8.out.b0) rfl; have q1 := cell_heap (i := 1) (HST8.out.b0) rfl; have q2 := cell_heap (i := 2) (HST8.out.b0) rfl
  have lsb := hst.lB
  have lC := hst.lC
  have lA := hst.lA
  clear hst hC hlt
  have HBN := Lib.hid (bent_any (fun b => b ≠ sb) sb _ _ _ R W8.drew (srcOk_drewN HST8.out.so 1) ((HST8.out.rg.below (bdr brefl)).mono (fun b h _ => h.1)) (fun b h => h) ⟨HLIKE.out.ne, by have := HLIKE.out.ok.ls; omega⟩ (by have := HLIKE.out.ok.hl; omega) (by have := HLIKE.out.ok.lm; omega))
  go_upto_region 16 with fail
  go_cut [85, 86] (fun s85 s86 wx => ∃ (u0 u1 u2 : Option Addr) (m0 d0 m1 d1 m2 d2 : Nat) (R' : Reg), s85 = .agg #[.slice a0 n0 c0, .slice a1 n1 c1, .slice a2 n2 c2, .slice u0 m0 d0, .slice u1 m1 d1, .slice u2 m2 d2, .slice r0 rn0 rc0, .slice r1 rn1 rc1, .slice r2 rn2 rc2] ∧ s86 = .int .i64 0 ∧ LB R' ∧ 0 < R'.secs.length ∧ RgIn (fun b => b ≠ sb) wx (.slice u0 m0 d0) (.slice u1 m1 d1) (.slice u2 m2 d2) R' ∧ RxS sb w.heap.size w3.heap.size C w wx ⟨xid, xun, xis, xma, xra, xev, xix⟩ (.slice r0 rn0 rc0) (.slice r1 rn1 rc1) (.slice r2 rn2 rc2) (.slice a0 n0 c0) (.slice a1 n1 c1) (.slice a2 n2 c2) R ∧ wx.heap[C]? = some (.cells #[.int .i64 ov, .int .i64 pun, .int .i64 pis, .int .i64 pma, .int .i64 pra, .int .i64 pev, .bool oix] 29 (0, 0)))
  case first =>
    go_region_held3 (fun w' => w'.cell? ⟨w3.heap.size, 0, none⟩ = some (.slice a0 n0 c0) ∧ w'.cell? ⟨w3.heap.size, 1, none⟩ = some (.slice a1 n1 c1) ∧ w'.cell? ⟨w3.heap.size, 2, none⟩ = some (.slice a2 n2 c2) ∧ w'.cell? ⟨w.heap.size, 0, none⟩ = some (.slice r0 rn0 rc0) ∧ w'.cell? ⟨w.heap.size, 1, none⟩ = some (.slice r1 rn1 rc1) ∧ w'.cell? ⟨w.heap.size, 2, none⟩ = some (.slice r2 rn2 rc2)) (first | exact ⟨g0, g1, g2, kq0, kq1, kq2⟩ | exact ⟨b0, b1, b2, q0, q1, q2⟩ | go_keep) ((go_at_call 16; refine HBN.out.mono ?_; rintro e w9 ⟨v0, v1, v2, R', rfl, hl', hR9, hS9, hG9⟩; obtain ⟨u0, m0, d0, rfl, -, -, -⟩ := hR9.S.shape; obtain ⟨u1, m1, d1, rfl, -, -, -⟩ := hR9.H.shape; obtain ⟨u2, m2, d2, rfl, -, -, -⟩ := hR9.M.shape; have hG9' := grownBy_undrew hG9; have hst9 := HST8.out.grown hG9' hS9; have HST9 := Lib.hid hst9; have HC9 := Lib.hid (heap_gr hG9' (show C ≠ sb by omega) HC8.out); have zlt := srcOk_lt HST8.out.so; have HR9 := Lib.hid (hR9.mono (Q := fun b => b ≠ sb) (fun b h _ => by have : W8.drew.heap.size = W8.heap.size := rfl; omega)); have HL9 := Lib.hid hl'; have g0 := cell_heap (i := 0) (hst9.b2) rfl; have g1 := cell_heap (i := 1) (hst9.b2) rfl; have g2 := cell_heap (i := 2) (hst9.b2) rfl; have kq0 := cell_heap (i := 0) (hst9.b0) rfl; have kq1 := cell_heap (i := 1) (hst9.b0) rfl; have kq2 := cell_heap (i := 2) (hst9.b0) rfl; clear hR9 hS9 hG9 hG9' hst9 hl'))
    all_goals (go_wp2_with fail; go_meet)
    all_goals exact ⟨u0, u1, u2, m0, d0, m1, d1, m2, d2, R', rfl, rfl, (by have h := HL9.out; have h1 := HLIKE.out.ok.ls; have h2 := HLIKE.out.ok.hl; have h3 := HLIKE.out.ok.lm; exact ⟨by omega, by omega, by omega⟩), (by have h := HL9.out; have h1 := HLIKE.out.ne; omega), HR9.out, HST9.out, HC9.out⟩
  case rest =>
    obtain ⟨u0, u1, u2, m0, d0, m1, d1, m2, d2, R', rfl, rfl, hlb', hne', hR', hst, hC⟩ := hcut
    clear b0 b1 b2 q0 q1 q2
    obtain ⟨W10, hW10⟩ : ∃ X, X = wc := ⟨_, rfl⟩
    subst hW10
    have HST := Lib.hid hst
    have HC := Lib.hid hC
    have HRB := Lib.hid hR'
    have HLB' := Lib.hid hlb'
    have HNE' := Lib.hid hne'
    clear hst hC hR' hlb' hne' HST8 HC8
    go_upto_block 1 with fail
    refine kL HST HC HRB HLB' HNE' HLIKE HRR HNZ HLB lsb lC lA hd0 (by omega) ?_
    intros
    rename_i wx hpost
    have HBV := Lib.hid hpost
    clear hpost
    go_wp2_with fail
    refine (sane33_any _).mono ?_
    rintro e w9 ⟨rfl, hb9⟩
    go_wp2
    go_ret
    exact ⟨rfl, bup HBV.out hb9⟩
end Go.Proofs.Ytpoidaenkjjdfaa
