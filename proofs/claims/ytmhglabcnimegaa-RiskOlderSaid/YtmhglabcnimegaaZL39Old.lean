/- RiskOlder: the walk. -/
import Derived.Test.YtmhglabcnimegaaZL39O
import Derived.Test.YtmhglabcnimegaaZL39Base
import Derived.Test.YtmhglabcnimegaaZRegP
import Derived.BigQuiet
namespace Go.Proofs.Ytmhglabcnimegaa
open Go.RowKit
set_option linter.unusedVariables false
set_option linter.unusedSimpArgs false
theorem ints_sl (W : World) (T : TypeId) (C : Array Value) (L : List Int) (n g : Nat) (hg : g = W.heap.size) (hC : C = (L.map (Value.int .i64)).toArray) (hn : L.length = n) (hm : n ≤ maxLen) : Sl 1 encI (fun _ => True) (W.alloc (.cells C T)) (.slice (some ⟨g, 0, none⟩) n n) L := by
  subst hg
  refine ⟨_, n, n, rfl, hn, Nat.le_refl _, hm, .inr ⟨W.heap.size, 0, rfl, trivial, by simp, fun j a hj i u hi => ?_⟩⟩
  have hh := World.alloc_heap_new W (.cells C T)
  match i, hi with
  | 0, hi =>
    simp [encI] at hi
    subst hi
    refine cell_heap (i := 0 + j * 1 + 0) hh ?_
    rw [hC]
    simp [hj]
  | i + 1, hi => simp [encI] at hi
set_option maxHeartbeats 16000000 in
set_option maxRecDepth 100000 in
theorem rolder_walk (k0 : Option Addr) (len0 cap0 : Nat) (w : World) (h1 : len0 ≤ cap0) (h2 : cap0 ≤ maxLen) (hz : len0 = 0 ∨ ∃ b off, k0 = some ⟨b, off, none⟩ ∧ ∀ i, i < len0 → ∃ z : Int, w.cell? ⟨b, off + i, none⟩ = some (.int .i64 z)) :
    Calls Try.prog 8 #[.slice k0 len0 cap0] w fun e w' => e = .returned (.bool true) ∧ Below w.heap.size w w' := by
  go_enter Try.func8, Try.ntmps8
  go_wp2_with fail
  refine (new_any k0 len0 cap0 w h1 h2 hz).mono ?_
  rintro e w1 ⟨sb, rfl, hsb, hS1, hB1⟩
  have hlt := srcOk_lt hS1
  have hzs := hB1.size
  clear hz
  go_wp2_with fail
  have hx0 : (w1.alloc (.cells #[.slice none 0 0, .slice none 0 0, .slice none 0 0] 29)).heap[w1.heap.size]? = some (.cells #[.slice none 0 0, .slice none 0 0, .slice none 0 0] 29 (0, 0)) := World.alloc_heap_new _ _
  have HX0 := Lib.hid hx0
  have HS0 := Lib.hid (srcOk_alloc hS1 (.cells #[.slice none 0 0, .slice none 0 0, .slice none 0 0] 29))
  have HB0 := Lib.hid (bal hB1 (.cells #[.slice none 0 0, .slice none 0 0, .slice none 0 0] 29))
  clear hx0 hS1 hB1
  go_loopw [5] (fun iv wr => ∃ (id : Int) (R : Reg) (a0 a1 a2 : Option Addr) (n0 c0 n1 c1 n2 c2 : Nat), iv = .int .i64 id ∧ (1 ≤ id ∧ id ≤ 3) ∧ OldAt id R ∧ (id ≠ 1 ∨ Value.slice a0 n0 c0 = .slice none 0 0) ∧ wr.heap[w1.heap.size]? = some (.cells #[.slice a0 n0 c0, .slice a1 n1 c1, .slice a2 n2 c2] 29 (0, 0)) ∧ RgIn (fun b => w1.heap.size < b) wr (.slice a0 n0 c0) (.slice a1 n1 c1) (.slice a2 n2 c2) R ∧ SrcOk wr sb ∧ Below w.heap.size w wr) (fun iv _ => (3 - intOf iv).toNat)
  case atStart => exact ⟨1, ⟨[], [], []⟩, none, none, none, 0, 0, 0, 0, 0, 0, rfl, by omega, .inl ⟨rfl, rfl⟩, .inr rfl, HX0.out, rgIn_nil _ _, HS0.out, HB0.out⟩
  case round =>
    clear HX0 HS0 HB0
    obtain ⟨id, R, a0, a1, a2, n0, c0, n1, c1, n2, c2, rfl, hid, hold, hnil, hx, hR, hS, hB⟩ := hrel
    have y0 := cell_heap (i := 0) hx rfl
    have y1 := cell_heap (i := 1) hx rfl
    have y2 := cell_heap (i := 2) hx rfl
    have zb : w1.heap.size < wr.heap.size := World.block_lt_of_cell? wr ⟨w1.heap.size, 0, none⟩ y0
    have HX := Lib.hid hx
    have HR := Lib.hid hR
    have HS := Lib.hid hS
    have HB := Lib.hid hB
    have HOLD := Lib.hid hold
    clear hx hR hS hB hold
    have hlen := old_len HOLD.out
    by_cases h2' : id ≤ 2
    · obtain ⟨hE, hl, hnx⟩ := old_step HOLD.out h2'
      have hw720 : IntKind.i64.wrap (720 * id) = 720 * id := IntWalk.i64_in _ (by omega)
      have hadd := fadd_any (fun b => w1.heap.size < b) _ _ _ R id 1 0 (720 * id) 5000 12 false wr HR.out (by omega) (by omega) (by omega) (fun b hb => by omega) (by
        rcases hnil with h | h
        · exact .inr (old_secs HOLD.out h)
        · exact .inl h)
      rw [show (⟨id, 1, 0, 720 * id, 5000, 12, false⟩ : Sec) = sxO id from rfl, hE] at hadd
      obtain ⟨R1, hR1⟩ : ∃ X, raR R (sxO id) = X := ⟨_, rfl⟩
      rw [hR1] at hl hnx hadd
      have HADD := Lib.hid hadd
      have HNX := Lib.hid hnx
      clear hadd hnx hE hR1
      go_wp2_with fail
      refine HADD.out.mono ?_
      clear HADD
      rintro e w2 hg
      obtain ⟨b0, m0, d0, b1, m1, d1, b2, m2, d2, rfl, hq, hb2⟩ := hg.shape
      have hx2 := (hb2.block _ zb).trans HX.out
      have z2 := hb2.size
      clear y0 y1 y2
      have x0 := cell_heap (i := 0) hx2 rfl
      have x1 := cell_heap (i := 1) hx2 rfl
      have x2 := cell_heap (i := 2) hx2 rfl
      have xf0 := frozen_of_row w2 _ 0 _ _ hx2
      have xf1 := frozen_of_row w2 _ 1 _ _ hx2
      have xf2 := frozen_of_row w2 _ 2 _ _ hx2
      have HQ2 := Lib.hid hq
      have HX2 := Lib.hid hx2
      have HB2 := Lib.hid hb2
      clear hg hq hx2 hb2
      go_upto_region 7 with fail
      have hb3 := below_set3 w2 (Nat.le_refl w1.heap.size) (.slice b0 m0 d0) (.slice b1 m1 d1) (.slice b2 m2 d2)
      have hq3 := HQ2.out.set3 (b := w1.heap.size) (v0 := .slice b0 m0 d0) (v1 := .slice b1 m1 d1) (v2 := .slice b2 m2 d2) (fun k hk => by omega)
      have hx3 := heap_setCell_same _ _ 2 _ _ (.slice b2 m2 d2) (heap_setCell_same _ _ 1 _ _ (.slice b1 m1 d1) (heap_setCell_same w2 _ 0 _ _ (.slice b0 m0 d0) HX2.out))
      have hz3 : (((w2.setCell ⟨w1.heap.size, 0, none⟩ (.slice b0 m0 d0)).setCell ⟨w1.heap.size, 1, none⟩ (.slice b1 m1 d1)).setCell ⟨w1.heap.size, 2, none⟩ (.slice b2 m2 d2)).heap.size = w2.heap.size := by simp [World.setCell]
      generalize ((w2.setCell ⟨w1.heap.size, 0, none⟩ (.slice b0 m0 d0)).setCell ⟨w1.heap.size, 1, none⟩ (.slice b1 m1 d1)).setCell ⟨w1.heap.size, 2, none⟩ (.slice b2 m2 d2) = W3 at hb3 hq3 hx3 hz3 ⊢
      have HS3 := Lib.hid (srcOk_below (srcOk_below HS.out HB2.out (by omega)) hb3 hlt)
      have HB3 := Lib.hid ((HB.out.trans (HB2.out.mono HB.out.size)).trans (hb3.mono hzs))
      have HX3 := Lib.hid hx3
      have HQ3 := Lib.hid hq3
      have zb3 : w1.heap.size < W3.heap.size := by omega
      clear x0 x1 x2 xf0 xf1 xf2
      have x0 := cell_heap (i := 0) hx3 rfl
      have x1 := cell_heap (i := 1) hx3 rfl
      have x2 := cell_heap (i := 2) hx3 rfl
      clear hb3 hq3 hx3 HQ2 HX2 HB2 HX HR HS HB
      go_region_with (first
        | (go_at_call 16; refine (range_any sb 1 5000 _ (srcOk_drewN HS3.out 1) (by decide) (by decide) (by decide)).mono ?_; rintro e w5 ⟨q, hq, rfl, hS5, hG5⟩; have hG5' : W3.grownBy w5 (some sb) := grownBy_undrew hG5; have hx5 := (hG5'.block _ zb3 (by simp; omega)).trans HX3.out; have HS5 := Lib.hid hS5; have HX5 := Lib.hid hx5; have HQ5 := Lib.hid (HQ3.out.grown hG5' (fun b hb => by omega)); have HB5 := Lib.hid (HB3.out.trans (below_of_grown hG5' hsb HB3.out.size)); have z5 := hG5'.size; have HQQ := Lib.hid (HNX.out q hq); have v0 := cell_heap (i := 0) hx5 rfl; have v1 := cell_heap (i := 1) hx5 rfl; have v2 := cell_heap (i := 2) hx5 rfl; clear hS5 hG5 hG5' hx5)
        | (go_at_call 39; refine (fIssue_any (fun b => w1.heap.size < b) _ _ _ R1 0 id 1 q _ HQ5.out (by omega) (by omega) (by omega) (fun b hb => by omega)).mono ?_; rintro e w6 hg; obtain ⟨p0, q0, r0, p1, q1, r1, p2, q2, r2, rfl, hq6, hb6⟩ := hg.shape; have hx6 := (hb6.block _ (by omega)).trans HX5.out; have HQ6 := Lib.hid hq6; have HX6 := Lib.hid hx6; have HS6 := Lib.hid (srcOk_below HS5.out hb6 (by omega)); have HB6 := Lib.hid (HB5.out.trans (hb6.mono HB5.out.size)); have u0 := cell_heap (i := 0) hx6 rfl; have u1 := cell_heap (i := 1) hx6 rfl; have u2 := cell_heap (i := 2) hx6 rfl; have uf0 := frozen_of_row w6 _ 0 _ _ hx6; have uf1 := frozen_of_row w6 _ 1 _ _ hx6; have uf2 := frozen_of_row w6 _ 2 _ _ hx6; clear hg hq6 hb6 hx6))
      all_goals
        have HFIN := Lib.hid (show ∃ (R : Reg) (a0 a1 a2 : Option Addr) (n0 c0 n1 c1 n2 c2 : Nat), OldAt (id + 1) R ∧ (((w6.setCell ⟨w1.heap.size, 0, none⟩ (.slice p0 q0 r0)).setCell ⟨w1.heap.size, 1, none⟩ (.slice p1 q1 r1)).setCell ⟨w1.heap.size, 2, none⟩ (.slice p2 q2 r2)).heap[w1.heap.size]? = some (.cells #[.slice a0 n0 c0, .slice a1 n1 c1, .slice a2 n2 c2] 29 (0, 0)) ∧ RgIn (fun b => w1.heap.size < b) (((w6.setCell ⟨w1.heap.size, 0, none⟩ (.slice p0 q0 r0)).setCell ⟨w1.heap.size, 1, none⟩ (.slice p1 q1 r1)).setCell ⟨w1.heap.size, 2, none⟩ (.slice p2 q2 r2)) (.slice a0 n0 c0) (.slice a1 n1 c1) (.slice a2 n2 c2) R ∧ SrcOk (((w6.setCell ⟨w1.heap.size, 0, none⟩ (.slice p0 q0 r0)).setCell ⟨w1.heap.size, 1, none⟩ (.slice p1 q1 r1)).setCell ⟨w1.heap.size, 2, none⟩ (.slice p2 q2 r2)) sb ∧ Below w.heap.size w (((w6.setCell ⟨w1.heap.size, 0, none⟩ (.slice p0 q0 r0)).setCell ⟨w1.heap.size, 1, none⟩ (.slice p1 q1 r1)).setCell ⟨w1.heap.size, 2, none⟩ (.slice p2 q2 r2)) from ⟨_, p0, p1, p2, q0, r0, q1, r1, q2, r2, HQQ.out.2, heap_setCell_same _ _ 2 _ _ (.slice p2 q2 r2) (heap_setCell_same _ _ 1 _ _ (.slice p1 q1 r1) (heap_setCell_same w6 _ 0 _ _ (.slice p0 q0 r0) HX6.out)), HQ6.out.set3 (fun k hk => by omega), srcOk_below HS6.out (below_set3 w6 (Nat.le_refl w1.heap.size) _ _ _) hlt, HB6.out.trans ((below_set3 w6 (Nat.le_refl w1.heap.size) _ _ _).mono hzs)⟩)
        go_wp2
        go_roundw
        all_goals first
          | (obtain ⟨R, a0, a1, a2, n0, c0, n1, c1, n2, c2, h1, h2, h3, h4, h5⟩ := HFIN.out; exact ⟨id + 1, R, a0, a1, a2, n0, c0, n1, c1, n2, c2, by go_num, by omega, h1, .inl (by omega), h2, h3, h4, h5⟩)
          | (simp [intOf]; omega)
    · obtain rfl : id = 3 := by omega
      obtain ⟨n, k, hn, hk, rfl⟩ : ∃ n k, (1 ≤ n ∧ n ≤ 5000) ∧ (1 ≤ k ∧ k ≤ 5000) ∧ R = oD n k := by
        rcases HOLD.out with ⟨h, _⟩ | ⟨h, _⟩ | ⟨_, h⟩
        · omega
        · omega
        · exact h
      have hok := (oD_ok hn hk).1
      have hokE := oE_ok hn hk
      obtain ⟨ht1, ht2, ht3⟩ := oD_term hn hk
      obtain ⟨hs1, hs2, hs3⟩ := oE_term hn hk
      obtain ⟨hc0, hc1, hc2⟩ := older_cmp hn hk
      have HT1 := Lib.hid (fun W (hW : RgIn (fun _ => True) W (.slice a0 n0 c0) (.slice a1 n1 c1) (.slice a2 n2 c2) (oD n k)) => term_any (fun _ => True) _ _ _ (oD n k) 10 W hW (by simp [oD]) (by simp [oD]) (by simp [oD]))
      unfold TmW at HT1
      rw [ht1, ht2, ht3] at HT1
      have HT2 := Lib.hid (fun W v0 v1 v2 (hW : RgIn (fun _ => True) W v0 v1 v2 (oE n k)) => term_any (fun _ => True) _ _ _ (oE n k) 10 W hW (by simp [oE]) (by simp [oE]) (by simp [oE]))
      unfold TmW at HT2
      rw [hs1, hs2, hs3] at HT2
      have HHE := Lib.hid (fun W (hW : RgIn (fun _ => True) W (.slice a0 n0 c0) (.slice a1 n1 c1) (.slice a2 n2 c2) (oD n k)) => fHeld_any (fun _ => True) _ _ _ (oD n k) 1 1 W hW (by simp [oD]) (by simp [oD]) (by simp [oD]))
      rw [oD_held hn hk] at HHE
      have HRE := Lib.hid (fun (P : Nat → Prop) W (hW : RgIn P W (.slice a0 n0 c0) (.slice a1 n1 c1) (.slice a2 n2 c2) (oD n k)) (hP : ∀ b, W.heap.size + 2 ≤ b → P b) => fRedeem_any P _ _ _ (oD n k) 10 1 1 n W hW (by simp [oD]) (by simp [oD]) (by simp [oD]) hP)
      rw [(oD_red hn hk).1, (oD_red hn hk).2] at HRE
      have HP1 := Lib.hid (fun W v (hW : RgIn (fun _ => True) W (.slice a0 n0 c0) (.slice a1 n1 c1) (.slice a2 n2 c2) (oD n k)) (hv : Sl 1 encI (fun _ => True) W v (List.replicate 5 0)) => project_any (fun _ => True) (fun _ => True) _ _ _ v (oD n k) 0 (List.replicate 5 0) W hW (by simp [oD]) (by simp [oD]) (by simp [oD]) hv (by simp))
      have HP2 := Lib.hid (fun W v (hW : RgIn (fun _ => True) W (.slice a0 n0 c0) (.slice a1 n1 c1) (.slice a2 n2 c2) (oD n k)) (hv : Sl 1 encI (fun _ => True) W v (List.replicate 3 0)) => project_any (fun _ => True) (fun _ => True) _ _ _ v (oD n k) 2 (List.replicate 3 0) W hW (by simp [oD]) (by simp [oD]) (by simp [oD]) hv (by simp))
      have hpe1 : prE (oD n k) 0 (List.replicate 5 0) = 0 := prE_ok hok (by rfl) (by omega) (by omega)
      have hpe2 : prE (oD n k) 2 (List.replicate 3 0) = 0 := prE_ok hok (by rfl) (by omega) (by omega)
      rw [hpe1] at HP1
      rw [hpe2] at HP2
      have HPE1 := Lib.hid hpe1
      have HPE2 := Lib.hid hpe2
      have HL1 := Lib.hid (show (prL (oD n k) 0 (List.replicate 5 0)).length = 5 from (prL_len hpe1).trans (by simp))
      have HL2 := Lib.hid (show (prL (oD n k) 2 (List.replicate 3 0)).length = 3 from (prL_len hpe2).trans (by simp))
      have HRr := Lib.hid HR.out.any
      obtain ⟨A, hA⟩ : ∃ z, n * 710 + k * 1430 = z := ⟨_, rfl⟩
      obtain ⟨B, hB⟩ : ∃ z, n + k = z := ⟨_, rfl⟩
      obtain ⟨C, hC⟩ : ∃ z, k * 1430 = z := ⟨_, rfl⟩
      rw [hA] at HT1 hc0 hc1
      rw [hB] at HT1 hc0 hc2
      rw [hC] at HT2 hc0 hc2
      have hBk : k < B := by omega
      have hw1 : IntKind.i64.wrap (A * k) = A * k := IntWalk.i64_in _ (by omega)
      have hw2 : IntKind.i64.wrap (C * B) = C * B := IntWalk.i64_in _ (by omega)
      clear ht1 ht2 ht3 hs1 hs2 hs3 hpe1 hpe2 hA hB hC HR HS HOLD hok hokE hlen
      go_wp2_with fail
      refine (HT1.out _ HRr.out).mono ?_
      rintro e w2 ⟨rfl, hb2⟩
      replace y0 := keepB hb2 y0
      replace y1 := keepB hb2 y1
      replace y2 := keepB hb2 y2
      have HB2 := Lib.hid hb2
      have z2 := hb2.size
      have zb2 : w1.heap.size < w2.heap.size := by omega
      clear hb2 HT1
      go_upto_region 9 with fail
      go_cut [9, 10] (fun s9 s10 wx => ∃ (g : Nat) (p0 p1 p2 : Option Addr) (q0 r0 q1 r1 q2 r2 : Nat), s9 = .pointer (some ⟨g, 0, none⟩) ∧ s10 = .int .i64 0 ∧ wx.heap[g]? = some (.cells #[.slice p0 q0 r0, .slice p1 q1 r1, .slice p2 q2 r2] 29 (0, 0)) ∧ RgIn (fun _ => True) wx (.slice p0 q0 r0) (.slice p1 q1 r1) (.slice p2 q2 r2) (oE n k) ∧ Below wr.heap.size wr wx)
      case first =>
        go_region_with (first
          | (go_at_call 19; refine (HHE.out _ ?_).mono ?_; (· first | exact HRr.out.below (bdr HB2.out) | exact HRr.out.below (bal (bdr HB2.out) _)); rintro e w3 ⟨rfl, hb3⟩; (first | (have hx3 := (show w3.heap[w2.heap.size]? = some (.cells #[.slice none 0 0, .slice none 0 0, .slice none 0 0] 29 (0, 0)) from box_belowN (w := w2.drew) hb3); have HX3 := Lib.hid hx3; clear hx3) | skip); have hX3 : Below w2.heap.size w2 w3 := (by first | exact bup (bdr brefl) hb3 | exact bup (bal (bdr brefl) _) hb3); have HB3 := Lib.hid (bup HB2.out hX3); have z3 := hX3.size; have s0 := keepB hX3 y0; have s1 := keepB hX3 y1; have s2 := keepB hX3 y2; have zs := World.block_lt_of_cell? _ _ s0; clear hb3 hX3)
          | (go_at_call 43; refine (HRE.out (fun b => b ≠ w2.heap.size ∧ b ≠ w3.heap.size) _ ?_ ?_).mono ?_; (· first | exact (HRr.out.mono (fun b _ hl => by omega)).below HB3.out | exact (HRr.out.mono (fun b _ hl => by omega)).below (bal HB3.out _)); (· intro b hb; (try simp at hb); omega); rintro e w4 hg; obtain ⟨p0, q0, r0, p1, q1, r1, p2, q2, r2, rfl, hq4, hb4⟩ := hg.shape; (first | (have hx4 := (show w4.heap[w3.heap.size]? = some (.cells #[.slice none 0 0, .slice none 0 0, .slice none 0 0] 29 (0, 0)) from box_belowN (w := w3) hb4); have HX4 := Lib.hid hx4; have x0 := cell_heap (i := 0) hx4 rfl; have x1 := cell_heap (i := 1) hx4 rfl; have x2 := cell_heap (i := 2) hx4 rfl; have f0 := frozen_of_row w4 _ 0 _ _ hx4; have f1 := frozen_of_row w4 _ 1 _ _ hx4; have f2 := frozen_of_row w4 _ 2 _ _ hx4; clear hx4) | (have hx4 := keep_box hb4 HX3.out; have HX4 := Lib.hid hx4; have x0 := cell_heap (i := 0) hx4 rfl; have x1 := cell_heap (i := 1) hx4 rfl; have x2 := cell_heap (i := 2) hx4 rfl; have f0 := frozen_of_row w4 _ 0 _ _ hx4; have f1 := frozen_of_row w4 _ 1 _ _ hx4; have f2 := frozen_of_row w4 _ 2 _ _ hx4; clear hx4) | skip); have HQ4 := Lib.hid hq4; have HB4 := Lib.hid (show Below wr.heap.size wr w4 by first | exact bup HB3.out hb4 | exact bup (bal HB3.out _) hb4); clear hg hq4 hb4))
        all_goals (go_wp2_with fail; go_meet)
        all_goals first
          | exact ⟨_, p0, p1, p2, q0, r0, q1, r1, q2, r2, rfl, rfl, World.alloc_heap_new _ _, HQ4.out.any.below (bal brefl _), bal HB4.out _⟩
          | exact ⟨_, p0, p1, p2, q0, r0, q1, r1, q2, r2, rfl, rfl, heap_setCell_same _ _ 2 _ _ (.slice p2 q2 r2) (heap_setCell_same _ _ 1 _ _ (.slice p1 q1 r1) (heap_setCell_same w4 _ 0 _ _ (.slice p0 q0 r0) HX4.out)), (HQ4.out.set3 (fun b hb => hb.1)).any, bset3 HB4.out (by omega) _ _ _⟩
          | exact ⟨_, p0, p1, p2, q0, r0, q1, r1, q2, r2, rfl, rfl, heap_setCell_same _ _ 2 _ _ (.slice p2 q2 r2) (heap_setCell_same _ _ 1 _ _ (.slice p1 q1 r1) (heap_setCell_same w4 _ 0 _ _ (.slice p0 q0 r0) HX4.out)), (HQ4.out.set3 (fun b hb => hb.2)).any, bset3 HB4.out (by omega) _ _ _⟩
      case rest =>
        obtain ⟨g, p0, p1, p2, q0, r0, q1, r1, q2, r2, rfl, rfl, hx, hR, hBc⟩ := hcut
        clear y0 y1 y2
        have v0 := cell_heap (i := 0) hx rfl
        have v1 := cell_heap (i := 1) hx rfl
        have v2 := cell_heap (i := 2) hx rfl
        have hxr := keep_box hBc HX.out
        have y0 := cell_heap (i := 0) hxr rfl
        have y1 := cell_heap (i := 1) hxr rfl
        have y2 := cell_heap (i := 2) hxr rfl
        have HRX := Lib.hid hR
        have HBC := Lib.hid hBc
        clear hx hR hBc hxr HHE HRE
        go_wp2_with fail
        refine (HT2.out _ _ _ _ HRX.out).mono ?_
        rintro e w5 ⟨rfl, hb5⟩
        replace y0 := keepB hb5 y0
        replace y1 := keepB hb5 y1
        replace y2 := keepB hb5 y2
        have HB5 := Lib.hid (bup HBC.out hb5)
        have z5 := World.block_lt_of_cell? _ _ y0
        clear hb5 HT2 HRX v0 v1 v2
        go_wp2_with fail
        have hp1 := HP1.out (w5.alloc (.cells #[.int .i64 0, .int .i64 0, .int .i64 0, .int .i64 0, .int .i64 0] 3)) (.slice (some ⟨w5.heap.size, 0, none⟩) 5 5) (HRr.out.below (bal HB5.out _)) (ints_sl w5 _ _ _ 5 _ rfl rfl (by simp) (by unfold maxLen; omega))
        refine hp1.mono ?_
        clear hp1
        rintro e w6 ⟨v6, rfl, hown, hb6⟩
        rw [HL1.out] at hown
        have hl6 : Sl 4 encSvc (fun _ => True) w6 v6 (prL (oD n k) 0 (List.replicate 5 0)) := Sl.own encSvc_len hown HL1.out (fun _ _ => trivial)
        obtain ⟨f6, c6, rfl⟩ := own_slice0 hown
        have HL6 := Lib.hid hl6
        have hX6 : Below w5.heap.size w5 w6 := bup (bal brefl _) hb6
        replace y0 := keepB hX6 y0
        replace y1 := keepB hX6 y1
        replace y2 := keepB hX6 y2
        have HB6 := Lib.hid (bup HB5.out hX6)
        have z6 := World.block_lt_of_cell? _ _ y0
        clear hown hl6 hb6 hX6 HP1
        go_wp2_with fail
        have hp2 := HP2.out (w6.alloc (.cells #[.int .i64 0, .int .i64 0, .int .i64 0] 3)) (.slice (some ⟨w6.heap.size, 0, none⟩) 3 3) (HRr.out.below (bal HB6.out _)) (ints_sl w6 _ _ _ 3 _ rfl rfl (by simp) (by unfold maxLen; omega))
        refine hp2.mono ?_
        clear hp2
        rintro e w7 ⟨v7, rfl, hown, hb7⟩
        rw [HL2.out] at hown
        have hl7 : Sl 4 encSvc (fun _ => True) w7 v7 (prL (oD n k) 2 (List.replicate 3 0)) := Sl.own encSvc_len hown HL2.out (fun _ _ => trivial)
        obtain ⟨f7, c7, rfl⟩ := own_slice0 hown
        have HL7 := Lib.hid hl7
        have hX7 : Below w6.heap.size w6 w7 := bup (bal brefl _) hb7
        have HL67 := Lib.hid (HL6.out.below hX7)
        have HB7 := Lib.hid (bup HB6.out hX7)
        clear hown hl7 hb7 hX7 HP2 y0 y1 y2 HL6
        go_wp2_with fail
        go_loopw [103] (fun iv wy => ∃ j : Nat, j ≤ 3 ∧ iv = .int .i64 j ∧ Below w7.heap.size w7 wy) (fun iv _ => 3 - (intOf iv).toNat)
        case atStart => exact ⟨0, by omega, rfl, brefl⟩
        case round =>
          obtain ⟨j, hj, rfl, hbr⟩ := hrel
          have HBR := Lib.hid hbr
          by_cases hlt3 : j < 3
          · obtain ⟨bm, om, ym, im, pm, dm, rfl, -, hbm, hxm, m0, m1, m2, m3⟩ := (HL7.out.below hbr).svc hlt3
            obtain ⟨bl, ol, yl, il, pl, dl, rfl, -, hbl, hxl, l0, l1, l2, l3⟩ := (HL67.out.below hbr).svc (k := j + 2) (by omega)
            have em := congrArg Svc.i (prL_at HPE2.out hxm)
            have el := congrArg Svc.i (prL_at HPE1.out hxl)
            have ey := congrArg Svc.yr (prL_at HPE2.out hxm)
            have e1 : im = il := (em.trans (older_int (oD n k) 3 5 j)).trans el.symm
            have e2 : ym = (j : Int) + 2 := by
              have : ym = 2 + (j : Int) := ey
              omega
            subst e1 e2
            clear em el ey hxm hxl hbr
            go_wp2
            go_quiet (fail)
            go_wp2
            go_roundw
            case rel => exact ⟨j + 1, by omega, by go_num, below_drewZ HBR.out _⟩
            case measure => simp [intOf]; omega
          · obtain rfl : j = 3 := by omega
            clear hbr
            have hq1 : decide (A * k ≤ C * B) = true := decide_eq_true hc0
            have hq2 : decide (0 < k) = true := decide_eq_true (by omega)
            have hq3 : decide (k < B) = true := decide_eq_true hBk
            go_wp2_with fail
            refine (sane39_any _).mono ?_
            rintro e w9 ⟨rfl, hb9⟩
            go_wp2
            go_ret
            exact ⟨rfl, HB.out.trans ((bup HB7.out (bup HBR.out hb9)).mono HB.out.size)⟩
end Go.Proofs.Ytmhglabcnimegaa
