/- StripMoves: the plain part, over all draws. StripMoves: the walk. -/
import Derived.Test.YthhoaefadfeknaaGreatZL37B
import Derived.Test.YthhoaefadfeknaaGreatZStN
import Derived.Test.YthhoaefadfeknaaGreatZStO
import Derived.Test.YthhoaefadfeknaaGreatZSrcOdd
namespace Go.Proofs.YthhoaefadfeknaaGreat
open Go.RowKit
set_option linter.unusedVariables false
def mR : Reg := spR zR [] 5 1 1 500
def mL : List Stp := spL zR [] 5 1 1 500
theorem mv_e : spE zR [] 5 1 1 500 = 0 := by kernel_rfl
theorem mv_l : mL = [⟨1, 180, false, 1, 500⟩, ⟨1, 360, false, 1, 500⟩, ⟨1, 540, false, 1, 500⟩, ⟨1, 720, false, 1, 500⟩, ⟨1, 720, true, 1, 500⟩] := by kernel_rfl
theorem mv_c : chkE mR = 0 := by kernel_rfl
structure MovQ (s d : Int) (p : Bool) (q : Int) : Prop where
  e1 : mwE mR mL ⟨s, d, p, 1, 100 * q⟩ 2 = 0
  c1 : chkE (mwR mR mL ⟨s, d, p, 1, 100 * q⟩ 2) = 0
  l1 : decide ((mwL mR mL ⟨s, d, p, 1, 100 * q⟩ 2).length ≤ 10) = true
  j1 : jnE (mwR mR mL ⟨s, d, p, 1, 100 * q⟩ 2) (mwL mR mL ⟨s, d, p, 1, 100 * q⟩ 2) 6 1 1 500 = 77
  j2 : jnE (mwR mR mL ⟨s, d, p, 1, 100 * q⟩ 2) (mwL mR mL ⟨s, d, p, 1, 100 * q⟩ 2) 6 1 2 100 = 77
  e2 : mwE (mwR mR mL ⟨s, d, p, 1, 100 * q⟩ 2) (mwL mR mL ⟨s, d, p, 1, 100 * q⟩ 2) ⟨s, d, p, 2, 100 * q⟩ 1 = 0
  r2 : mwR (mwR mR mL ⟨s, d, p, 1, 100 * q⟩ 2) (mwL mR mL ⟨s, d, p, 1, 100 * q⟩ 2) ⟨s, d, p, 2, 100 * q⟩ 1 = mR
  l2 : mwL (mwR mR mL ⟨s, d, p, 1, 100 * q⟩ 2) (mwL mR mL ⟨s, d, p, 1, 100 * q⟩ 2) ⟨s, d, p, 2, 100 * q⟩ 1 = mL
  v1 : vhN (mwR mR mL ⟨s, d, p, 1, 100 * q⟩ 2) (mwL mR mL ⟨s, d, p, 1, 100 * q⟩ 2) ⟨s, d, p, 1, 100 * q⟩ = 500 - 100 * q
  v2 : vhN (mwR mR mL ⟨s, d, p, 1, 100 * q⟩ 2) (mwL mR mL ⟨s, d, p, 1, 100 * q⟩ 2) ⟨s, d, p, 2, 100 * q⟩ = 100 * q
set_option maxHeartbeats 4000000 in
theorem movq {k : Nat} {s d : Int} {p : Bool} {h a : Int} (hk : mL[k]? = some ⟨s, d, p, h, a⟩) {q : Int} (hq : 1 ≤ q ∧ q ≤ 5) : h = 1 ∧ MovQ s d p q := by
  rw [mv_l] at hk
  have hk5 : k < 5 := by have := (List.getElem?_eq_some_iff.1 hk).1; simpa using this
  have hkc : k = 0 ∨ k = 1 ∨ k = 2 ∨ k = 3 ∨ k = 4 := by omega
  have hqc : q = 1 ∨ q = 2 ∨ q = 3 ∨ q = 4 ∨ q = 5 := by omega
  rcases hkc with rfl | rfl | rfl | rfl | rfl
  all_goals
    simp only [List.getElem?_cons_zero, List.getElem?_cons_succ, Option.some.injEq, Stp.mk.injEq] at hk
    obtain ⟨rfl, rfl, rfl, rfl, rfl⟩ := hk
    refine ⟨rfl, ?_⟩
    rcases hqc with rfl | rfl | rfl | rfl | rfl
    all_goals exact ⟨by kernel_rfl, by kernel_rfl, by kernel_rfl, by kernel_rfl, by kernel_rfl, by kernel_rfl, by kernel_rfl, by kernel_rfl, by kernel_rfl, by kernel_rfl⟩
/-! what stays, but for the source -/
def Kp (sb B : Nat) (w w' : World) : Prop := w.heap.size ≤ w'.heap.size ∧ ∀ b, b < B → b ≠ sb → w'.heap[b]? = w.heap[b]?
section
variable {sb B : Nat} {w w' w'' : World}
theorem Kp.refl : Kp sb B w w := ⟨Nat.le_refl _, fun _ _ _ => rfl⟩
theorem Kp.trans (h : Kp sb B w w') (k : Kp sb B w' w'') : Kp sb B w w'' := ⟨Nat.le_trans h.1 k.1, fun b hb hne => (k.2 b hb hne).trans (h.2 b hb hne)⟩
theorem Kp.mono {B' : Nat} (h : Kp sb B w w') (hB : B' ≤ B) : Kp sb B' w w' := ⟨h.1, fun b hb hne => h.2 b (by omega) hne⟩
theorem Kp.below (h : Below w.heap.size w w') (hB : B ≤ w.heap.size) : Kp sb B w w' := ⟨h.size, fun b hb _ => h.block b (by omega)⟩
theorem Kp.grown (h : w.grownBy w' (some sb)) (hB : B ≤ w.heap.size) : Kp sb B w w' := ⟨h.size, fun b hb hne => h.block b (by omega) (by simpa using hne)⟩
theorem Kp.set {b o : Nat} {v : Value} (hb : B ≤ b) : Kp sb B w (w.setCell ⟨b, o, none⟩ v) := ⟨by simp [World.setCell], fun k hk _ => Below.heap_setCell _ _ _ _ (by simp only; omega)⟩
theorem VkIn.kp {vs vh vm vt : Value} {R : Reg} {L : List Stp} (h : VkIn (fun b => b < B ∧ b ≠ sb) w vs vh vm vt R L) (k : Kp sb B w w') : VkIn (fun b => b < B ∧ b ≠ sb) w' vs vh vm vt R L :=
  ⟨⟨h.rg.S.block k.1 fun b hb _ => k.2 b hb.1 hb.2, h.rg.H.block k.1 fun b hb _ => k.2 b hb.1 hb.2, h.rg.M.block k.1 fun b hb _ => k.2 b hb.1 hb.2⟩, h.st.block k.1 fun b hb _ => k.2 b hb.1 hb.2, h.lS, h.lH, h.lM, h.lL⟩
theorem Kp.cell (k : Kp sb B w w') {b o : Nat} {v : Value} (hb : b < B) (hne : b ≠ sb) (h : w.cell? ⟨b, o, none⟩ = some v) : w'.cell? ⟨b, o, none⟩ = some v := (World.cell?_of_block (a := ⟨b, o, none⟩) (k.2 b hb hne)).trans h
end
end Go.Proofs.YthhoaefadfeknaaGreat
namespace Go.Proofs.YthhoaefadfeknaaGreat
open Go.RowKit
set_option linter.unusedVariables false
set_option linter.unusedSimpArgs false
/-- a strip in a new box -/
def CutY (sb : Nat) (w3 : World) (s : Value) (wx : World) : Prop :=
  ∃ (B k : Nat) (vs vd : Int) (vp : Bool) (vh va : Int), s = .pointer (some ⟨B, 0, none⟩) ∧ mL[k]? = some ⟨vs, vd, vp, vh, va⟩ ∧ wx.heap[B]? = some (.cells #[.int .i64 vs, .int .i64 vd, .bool vp, .int .i64 vh, .int .i64 va] 88 (0, 0)) ∧ w3.heap.size ≤ B ∧ SrcOk wx sb ∧ w3.grownBy wx (some sb)
theorem cutY_new {sb k : Nat} {vs vd : Int} {vp : Bool} {vh va : Int} {w3 w9 : World} (hk : mL[k]? = some ⟨vs, vd, vp, vh, va⟩) (hg : w3.grownBy w9 (some sb)) (hs : SrcOk w9 sb) : CutY sb w3 (.pointer (some ⟨w9.heap.size, 0, none⟩)) (w9.alloc (.cells #[.int .i64 vs, .int .i64 vd, .bool vp, .int .i64 vh, .int .i64 va] 88 (0, 0))) :=
  ⟨w9.heap.size, k, vs, vd, vp, vh, va, rfl, hk, heap_alloc_new w9 _, hg.size, srcOk_alloc hs _, ztrans hg (zbelow (bal brefl _) _)⟩
theorem cutY_set {sb k : Nat} {vs vd : Int} {vp : Bool} {vh va : Int} {w3 w9 : World} {u0 u1 u2 u3 u4 : Value} (hsb : sb < w3.heap.size) (hk : mL[k]? = some ⟨vs, vd, vp, vh, va⟩) (hB : w9.heap[w3.heap.size]? = some (.cells #[u0, u1, u2, u3, u4] 88 (0, 0))) (hg : w3.grownBy w9 (some sb)) (hs : SrcOk w9 sb) :
    CutY sb w3 (.pointer (some ⟨w3.heap.size, 0, none⟩)) (((((w9.setCell ⟨w3.heap.size, 0, none⟩ (.int .i64 vs)).setCell ⟨w3.heap.size, 1, none⟩ (.int .i64 vd)).setCell ⟨w3.heap.size, 2, none⟩ (.bool vp)).setCell ⟨w3.heap.size, 3, none⟩ (.int .i64 vh)).setCell ⟨w3.heap.size, 4, none⟩ (.int .i64 va)) := by
  have e0 := heap_setCell_same w9 _ 0 _ _ (.int .i64 vs) hB
  have e1 := heap_setCell_same _ _ 1 _ _ (.int .i64 vd) e0
  have e2 := heap_setCell_same _ _ 2 _ _ (.bool vp) e1
  have e3 := heap_setCell_same _ _ 3 _ _ (.int .i64 vh) e2
  have e4 := heap_setCell_same _ _ 4 _ _ (.int .i64 va) e3
  have hb : Below w3.heap.size w9 (((((w9.setCell ⟨w3.heap.size, 0, none⟩ (.int .i64 vs)).setCell ⟨w3.heap.size, 1, none⟩ (.int .i64 vd)).setCell ⟨w3.heap.size, 2, none⟩ (.bool vp)).setCell ⟨w3.heap.size, 3, none⟩ (.int .i64 vh)).setCell ⟨w3.heap.size, 4, none⟩ (.int .i64 va)) :=
    (((((Below.refl w3.heap.size w9).setCell (p := ⟨w3.heap.size, 0, none⟩) (Nat.le_refl _) _).setCell (p := ⟨w3.heap.size, 1, none⟩) (Nat.le_refl _) _).setCell (p := ⟨w3.heap.size, 2, none⟩) (Nat.le_refl _) _).setCell (p := ⟨w3.heap.size, 3, none⟩) (Nat.le_refl _) _).setCell (p := ⟨w3.heap.size, 4, none⟩) (Nat.le_refl _) _
  exact ⟨w3.heap.size, k, vs, vd, vp, vh, va, rfl, hk, by rw [e4]; rfl, Nat.le_refl _, srcOk_below hs hb hsb, ⟨hb.os.trans hg.os, hb.tape.trans hg.tape, hb.output.trans hg.output, Nat.le_trans hg.size hb.size, fun b hlt hne => (hb.block b hlt).trans (hg.block b hlt hne)⟩⟩
set_option maxHeartbeats 16000000 in
set_option maxRecDepth 100000 in
theorem moves_walk (k0 : Option Addr) (len0 cap0 : Nat) (w : World) (h1 : len0 ≤ cap0) (h2 : cap0 ≤ maxLen) (hz : len0 = 0 ∨ ∃ b off, k0 = some ⟨b, off, none⟩ ∧ ∀ i, i < len0 → ∃ z : Int, w.cell? ⟨b, off + i, none⟩ = some (.int .i64 z)) :
    Calls Tryz.prog 7 #[.slice k0 len0 cap0] w fun e w' => e = .returned (.bool true) ∧ Below w.heap.size w w' := by
  go_enter Tryz.func7, Tryz.ntmps7
  go_wp2_with fail
  refine (new_any k0 len0 cap0 w h1 h2 hz).mono ?_
  rintro e w1 ⟨sb, rfl, hsb, hS1, hB1⟩
  clear hz
  have hlt1 := srcOk_lt hS1
  have HS1 := Lib.hid hS1
  have HB1 := Lib.hid hB1
  clear hS1 hB1
  go_wp2_with fail
  refine (whole_any _).mono ?_
  rintro e w2 ⟨a0, n0, c0, a1, n1, c1, a2, n2, c2, a3, n3, c3, rfl, hv2, hb2⟩
  have KS := stsplit_any (fun b => b ≠ sb) _ _ _ _ zR [] 5 1 1 500 w2 (hv2.mono (fun b hb _ => by omega)) (fun b hb => by have := hb2.size; omega)
  rw [mv_e] at KS
  have HKS := Lib.hid KS
  have HB2 := Lib.hid hb2
  clear KS hv2 hb2
  go_wp2_with fail
  refine HKS.out.mono ?_
  rintro e w3 hg
  obtain ⟨e0, m0, d0, e1, m1, d1, e2, m2, d2, e3, m3, d3, rfl, hv3, hb3⟩ := GaveV.got hg mv_c (by show mL.length ≤ _; rw [mv_l]; simp)
  have hm3 : m3 = 5 := by have := hv3.st.len; rw [← this]; show mL.length = 5; rw [mv_l]; rfl
  subst hm3
  have HV3 := Lib.hid (show VkIn (fun b => b < w3.heap.size ∧ b ≠ sb) w3 (.slice e0 m0 d0) (.slice e1 m1 d1) (.slice e2 m2 d2) (.slice e3 5 d3) mR mL from hv3.mono (fun b hb hlt => ⟨hlt, hb⟩))
  have HB3 := Lib.hid (bup HB2.out hb3)
  have z3 : sb < w3.heap.size := by have := HB3.out.size; omega
  clear hg hv3 hb3
  go_upto_region 3 with fail
  obtain ⟨W3, hW3⟩ : ∃ W, W = w3.alloc (.cells #[.slice e0 m0 d0, .slice e1 m1 d1, .slice e2 m2 d2, .slice e3 5 d3] 69 (0, 0)) := ⟨_, rfl⟩
  try rw [← hW3]
  have HBW := Lib.hid (show Below w3.heap.size w3 W3 by rw [hW3]; exact bal brefl _)
  have zW : w3.heap.size < W3.heap.size := by rw [hW3]; simp
  have v0 : W3.cell? ⟨w3.heap.size, 0, none⟩ = some (.slice e0 m0 d0) := by rw [hW3]; exact World.cell?_alloc_at _ _ _ _ rfl
  have v1 : W3.cell? ⟨w3.heap.size, 1, none⟩ = some (.slice e1 m1 d1) := by rw [hW3]; exact World.cell?_alloc_at _ _ _ _ rfl
  have v2 : W3.cell? ⟨w3.heap.size, 2, none⟩ = some (.slice e2 m2 d2) := by rw [hW3]; exact World.cell?_alloc_at _ _ _ _ rfl
  have v3 : W3.cell? ⟨w3.heap.size, 3, none⟩ = some (.slice e3 5 d3) := by rw [hW3]; exact World.cell?_alloc_at _ _ _ _ rfl
  clear hW3
  have HSW := Lib.hid (srcOk_below (srcOk_below HS1.out HB3.out hlt1) HBW.out z3)
  have zWs : sb < W3.heap.size := by omega
  have hnv : ¬ w3.heap.size = sb := by omega
  go_wp2_with fail
  go_upto_region 5 with fail
  have KN := Lib.hid (fun U (hU : SrcOk U sb) => n_any sb 5 U hU (by decide))
  go_cut [6] (fun s6 wx => CutY sb W3 s6 wx)
  case first =>
    go_region_with (first | (go_at_call 16; refine (KN.out _ (by first | exact srcOk_drewN HSW.out 1 | exact srcOk_drewN (srcOk_alloc HSW.out _) 1)).mono ?_; rintro e w9 ⟨q9, hq9, rfl, hS9, hG9⟩; obtain ⟨k9, rfl⟩ : ∃ k : Nat, q9 = k := ⟨q9.toNat, by omega⟩; have hk9 : k9 < 5 := (by omega); obtain ⟨hg9, -⟩ : W3.grownBy w9 (some sb) ∧ True := ⟨by first | exact ⟨hG9.os, hG9.tape, hG9.output, hG9.size, hG9.block⟩ | exact ztrans (zbelow (bdr (bal brefl _)) _) hG9, trivial⟩; obtain ⟨b9, o9, xs, xd, xp, xh, xa, hxe, -, hb9, hL9, l0, l1, l2, l3, l4⟩ := ((HV3.out.kp (Kp.below HBW.out (Nat.le_refl _))).kp (Kp.grown hg9 (Nat.le_of_lt zW))).st.stp hk9; cases hxe; have v39 : w9.cell? ⟨w3.heap.size, 3, none⟩ = some (.slice (some ⟨b9, o9, none⟩) 5 d3) := hg9.cell v3 (by simp; omega); have kz9 : (k9 : Int) < 5 := (by omega); have z9 : w3.heap.size < w9.heap.size := World.block_lt_of_cell? _ _ v39; (try (have hB9 : w9.heap[W3.heap.size]? = some (.cells #[.int .i64 0, .int .i64 0, .bool false, .int .i64 0, .int .i64 0] 88 (0, 0)) := (hG9.block W3.heap.size (by show W3.heap.size < (W3.alloc _).heap.size; simp) (by simp; omega)).trans (show (W3.alloc (.cells #[.int .i64 0, .int .i64 0, .bool false, .int .i64 0, .int .i64 0] 88)).heap[W3.heap.size]? = _ from heap_alloc_new W3 _); have x0 : w9.cell? ⟨W3.heap.size, 0, none⟩ = some (.int .i64 0) := cell_heap hB9 rfl; have x1 : w9.cell? ⟨W3.heap.size, 1, none⟩ = some (.int .i64 0) := cell_heap hB9 rfl; have x2 : w9.cell? ⟨W3.heap.size, 2, none⟩ = some (.bool false) := cell_heap hB9 rfl; have x3 : w9.cell? ⟨W3.heap.size, 3, none⟩ = some (.int .i64 0) := cell_heap hB9 rfl; have x4 : w9.cell? ⟨W3.heap.size, 4, none⟩ = some (.int .i64 0) := cell_heap hB9 rfl; have xf : ∀ o, w9.frozen? ⟨W3.heap.size, o, none⟩ = false := fun o => frozen_of_row w9 W3.heap.size o _ _ hB9))))
    all_goals (go_wp2_with fail; go_meet)
    all_goals first
      | (have hq := hB9; exact cutY_set zWs hL9 hq hg9 hS9)
      | exact cutY_new hL9 hg9 hS9
  case rest =>
    obtain ⟨B6, k, vs, vd, vp, vh, va, rfl, hk, hB6, hzB, hS, hG⟩ := hcut
    go_wp2_with fail
    refine (range_any sb 1 5 _ hS (by decide) (by decide) (by decide)).mono ?_
    rintro e w10 ⟨q, hq, rfl, hS10, hG10⟩
    obtain ⟨rfl, hmq⟩ := movq hk hq
    have HQ := Lib.hid hmq
    obtain ⟨hq0, hq1⟩ := hq
    have hwq : IntKind.i64.wrap (100 * q) = 100 * q := IntWalk.i64_in _ (by omega)
    have hwq2 : IntKind.i64.wrap (500 - 100 * q) = 500 - 100 * q := IntWalk.i64_in _ (by omega)
    have hBs : B6 ≠ sb := by omega
    have hBl : B6 < wc.heap.size := (Array.getElem?_eq_some_iff.1 hB6).1
    have hB10 := (hG10.block B6 hBl (by simp; omega)).trans hB6
    have yf : w10.frozen? ⟨B6, 4, none⟩ = false := frozen_of_row w10 _ _ _ _ hB10
    have hk10 : Kp sb W3.heap.size W3 w10 := (Kp.grown hG (Nat.le_refl _)).trans (Kp.grown hG10 hG.size)
    have t0 : w10.cell? ⟨w3.heap.size, 0, none⟩ = some (.slice e0 m0 d0) := hk10.cell zW hnv v0
    have t1 : w10.cell? ⟨w3.heap.size, 1, none⟩ = some (.slice e1 m1 d1) := hk10.cell zW hnv v1
    have t2 : w10.cell? ⟨w3.heap.size, 2, none⟩ = some (.slice e2 m2 d2) := hk10.cell zW hnv v2
    have t3 : w10.cell? ⟨w3.heap.size, 3, none⟩ = some (.slice e3 5 d3) := hk10.cell zW hnv v3
    have y4 : w10.cell? ⟨B6, 4, none⟩ = some (.int .i64 va) := cell_heap hB10 rfl
    obtain ⟨W11, hW11⟩ : ∃ W, W = w10.setCell ⟨B6, 4, none⟩ (.int .i64 (100 * q)) := ⟨_, rfl⟩
    have hB11 : W11.heap[B6]? = some (.cells #[.int .i64 vs, .int .i64 vd, .bool vp, .int .i64 1, .int .i64 (100 * q)] 88 (0, 0)) := by rw [hW11, heap_setCell_same w10 _ 4 _ _ (.int .i64 (100 * q)) hB10]; rfl
    have hk11 : Kp sb W3.heap.size W3 W11 := by rw [hW11]; exact hk10.trans (Kp.set hzB)
    have hzz : w10.heap.size ≤ W11.heap.size := by rw [hW11]; simp [World.setCell]
    have u0 : W11.cell? ⟨w3.heap.size, 0, none⟩ = some (.slice e0 m0 d0) := hk11.cell zW hnv v0
    have u1 : W11.cell? ⟨w3.heap.size, 1, none⟩ = some (.slice e1 m1 d1) := hk11.cell zW hnv v1
    have u2 : W11.cell? ⟨w3.heap.size, 2, none⟩ = some (.slice e2 m2 d2) := hk11.cell zW hnv v2
    have u3 : W11.cell? ⟨w3.heap.size, 3, none⟩ = some (.slice e3 5 d3) := hk11.cell zW hnv v3
    have hS11 : SrcOk W11 sb := by rw [hW11]; exact srcOk_below hS10 ((Below.refl W3.heap.size w10).setCell (p := ⟨B6, 4, none⟩) hzB _) zWs
    have hs11 : W3.heap.size ≤ W11.heap.size := hk11.1
    have hbw : Below w.heap.size w W11 := by
      have h1 : Below w.heap.size W3 wc := below_of_grown hG hsb (by have := HB1.out.size; have := HB3.out.size; omega)
      have h2 : Below w.heap.size wc w10 := below_of_grown hG10 hsb (by have := h1.size; have := HB1.out.size; have := HB3.out.size; omega)
      have h3 : Below w.heap.size w10 W11 := by rw [hW11]; exact (Below.refl w.heap.size w10).setCell (p := ⟨B6, 4, none⟩) (by have := HB1.out.size; have := HB3.out.size; simp only; omega) _
      exact (bup HB1.out (bup HB3.out HBW.out)).trans (h1.trans (h2.trans h3))
    have HBW11 := Lib.hid hbw
    have HV11 := Lib.hid ((HV3.out.kp (Kp.below HBW.out (Nat.le_refl _))).kp (hk11.mono (Nat.le_of_lt zW)))
    have HW11 := Lib.hid hW11
    have HB11 := Lib.hid hB11
    have zB11 : B6 < W11.heap.size := (Array.getElem?_eq_some_iff.1 hB11).1
    have zs11 : sb < W11.heap.size := by omega
    have zv11 : w3.heap.size < W11.heap.size := by omega
    have hBv : ¬ B6 = w3.heap.size := by omega
    clear hB6 hS hG hS10 hG10 hB10 hk10 hk11 hW11 hB11 v0 v1 v2 v3 hbw hmq
    go_upto_region 7 with fail
    rw [← HW11.out]
    clear t0 t1 t2 t3 y4 yf
    have y0 : W11.cell? ⟨B6, 0, none⟩ = some (.int .i64 vs) := cell_heap HB11.out rfl
    have y1 : W11.cell? ⟨B6, 1, none⟩ = some (.int .i64 vd) := cell_heap HB11.out rfl
    have y2 : W11.cell? ⟨B6, 2, none⟩ = some (.bool vp) := cell_heap HB11.out rfl
    have y3 : W11.cell? ⟨B6, 3, none⟩ = some (.int .i64 1) := cell_heap HB11.out rfl
    have y4 : W11.cell? ⟨B6, 4, none⟩ = some (.int .i64 (100 * q)) := cell_heap HB11.out rfl
    have KM := stmove_any (fun b => b ≠ sb) _ _ _ _ mR mL vs vd vp 1 (100 * q) 2 W11 (HV11.out.mono (fun b hb _ => hb.2)) (fun b hb => by omega)
    rw [HQ.out.e1] at KM
    have HKM := Lib.hid KM
    clear KM
    go_wp2_with fail
    refine HKM.out.mono ?_
    rintro e w12 hg
    obtain ⟨RX, hRX⟩ : ∃ R, mwR mR mL ⟨vs, vd, vp, 1, 100 * q⟩ 2 = R := ⟨_, rfl⟩
    obtain ⟨LX, hLX⟩ : ∃ R, mwL mR mL ⟨vs, vd, vp, 1, 100 * q⟩ 2 = R := ⟨_, rfl⟩
    have hc1 := HQ.out.c1
    have hl1 := HQ.out.l1
    have hj1 := HQ.out.j1
    have hj2 := HQ.out.j2
    have he2 := HQ.out.e2
    have hr2 := HQ.out.r2
    have hl2 := HQ.out.l2
    have hn1 := HQ.out.v1
    have hn2 := HQ.out.v2
    rw [hRX] at hg hc1 hj1 hj2 he2 hr2 hl2 hn1 hn2
    rw [hLX] at hg hl1 hj1 hj2 he2 hr2 hl2 hn1 hn2
    have hl1' : LX.length ≤ 10 := of_decide_eq_true hl1
    obtain ⟨f0, p0, g0, f1, p1, g1, f2, p2, g2, f3, p3, g3, rfl, hv12, hb12⟩ := GaveV.got hg hc1 (by omega)
    have HV12 := Lib.hid (show VkIn (fun b => b < w12.heap.size ∧ b ≠ sb) w12 (.slice f0 p0 g0) (.slice f1 p1 g1) (.slice f2 p2 g2) (.slice f3 p3 g3) RX LX from hv12.mono (fun b hb hlt => ⟨hlt, hb⟩))
    have HB12 := Lib.hid hb12
    have zs12 : sb < w12.heap.size := by have := hb12.size; omega
    have z12 : W11.heap.size ≤ w12.heap.size := hb12.size
    clear hg hv12 hb12
    replace u0 := keepB HB12.out u0
    replace u1 := keepB HB12.out u1
    replace u2 := keepB HB12.out u2
    replace u3 := keepB HB12.out u3
    replace y0 := keepB HB12.out y0
    replace y1 := keepB HB12.out y1
    replace y2 := keepB HB12.out y2
    replace y3 := keepB HB12.out y3
    replace y4 := keepB HB12.out y4
    have zy12 : B6 < w12.heap.size := by omega
    have zv12 : w3.heap.size < w12.heap.size := by omega
    go_upto_region 12 with fail
    obtain ⟨U15, hU15⟩ : ∃ U, U = ((w12.alloc (.cells #[.slice f0 p0 g0, .slice f1 p1 g1, .slice f2 p2 g2, .slice f3 p3 g3] 69 (0, 0))).alloc (.cells #[.int .i64 vs, .int .i64 vd, .bool vp, .int .i64 2, .int .i64 (100 * q)] 88 (0, 0))) := ⟨_, rfl⟩
    try rw [← hU15]
    have hk15 : Kp sb w12.heap.size w12 U15 := by rw [hU15]; exact Kp.below (bal (bal brefl _) _) (Nat.le_refl _)
    have hb15 : Below w12.heap.size w12 U15 := by rw [hU15]; exact bal (bal brefl _) _
    have hz15 : U15.heap.size = w12.heap.size + 2 := by rw [hU15]; simp [World.setCell]
    have r0 : U15.cell? ⟨w12.heap.size, 0, none⟩ = some (.slice f0 p0 g0) := by rw [hU15]; exact keepA (World.cell?_alloc_at _ _ _ _ rfl)
    have r1 : U15.cell? ⟨w12.heap.size, 1, none⟩ = some (.slice f1 p1 g1) := by rw [hU15]; exact keepA (World.cell?_alloc_at _ _ _ _ rfl)
    have r2 : U15.cell? ⟨w12.heap.size, 2, none⟩ = some (.slice f2 p2 g2) := by rw [hU15]; exact keepA (World.cell?_alloc_at _ _ _ _ rfl)
    have r3 : U15.cell? ⟨w12.heap.size, 3, none⟩ = some (.slice f3 p3 g3) := by rw [hU15]; exact keepA (World.cell?_alloc_at _ _ _ _ rfl)
    have o0 : U15.cell? ⟨w12.heap.size + 1, 0, none⟩ = some (.int .i64 vs) := by rw [hU15]; exact World.cell?_alloc_at _ _ _ _ (by simp)
    have o1 : U15.cell? ⟨w12.heap.size + 1, 1, none⟩ = some (.int .i64 vd) := by rw [hU15]; exact World.cell?_alloc_at _ _ _ _ (by simp)
    have o2 : U15.cell? ⟨w12.heap.size + 1, 2, none⟩ = some (.bool vp) := by rw [hU15]; exact World.cell?_alloc_at _ _ _ _ (by simp)
    have o3 : U15.cell? ⟨w12.heap.size + 1, 3, none⟩ = some (.int .i64 2) := by rw [hU15]; exact World.cell?_alloc_at _ _ _ _ (by simp)
    have o4 : U15.cell? ⟨w12.heap.size + 1, 4, none⟩ = some (.int .i64 (100 * q)) := by rw [hU15]; exact World.cell?_alloc_at _ _ _ _ (by simp)
    replace u0 := keepB hb15 u0
    replace u1 := keepB hb15 u1
    replace u2 := keepB hb15 u2
    replace u3 := keepB hb15 u3
    replace y0 := keepB hb15 y0
    replace y1 := keepB hb15 y1
    replace y2 := keepB hb15 y2
    replace y3 := keepB hb15 y3
    replace y4 := keepB hb15 y4
    have HB15 := Lib.hid hb15
    have HV15 := Lib.hid (HV12.out.kp hk15)
    have KJ1 := stjoin_any (fun b => b ≠ sb) _ _ _ _ RX LX 6 1 1 500 U15 (HV15.out.mono (fun b hb _ => hb.2)) (fun b hb => by omega)
    rw [hj1] at KJ1
    have HKJ1 := Lib.hid KJ1
    have hz15' : w12.heap.size + 2 ≤ U15.heap.size := by omega
    clear KJ1 hU15 hk15 hb15 hz15
    go_wp2_with fail
    refine HKJ1.out.mono ?_
    rintro e w16 hg
    obtain ⟨_, _, _, _, _, _, _, _, _, _, _, _, rfl, -, -, hb16⟩ := hg.shape
    clear hg
    replace u0 := keepB hb16 u0
    replace u1 := keepB hb16 u1
    replace u2 := keepB hb16 u2
    replace u3 := keepB hb16 u3
    replace y0 := keepB hb16 y0
    replace y1 := keepB hb16 y1
    replace y2 := keepB hb16 y2
    replace y3 := keepB hb16 y3
    replace y4 := keepB hb16 y4
    replace r0 := keepB hb16 r0
    replace r1 := keepB hb16 r1
    replace r2 := keepB hb16 r2
    replace r3 := keepB hb16 r3
    replace o0 := keepB hb16 o0
    replace o1 := keepB hb16 o1
    replace o2 := keepB hb16 o2
    replace o3 := keepB hb16 o3
    replace o4 := keepB hb16 o4
    have HB16 := Lib.hid (bup HB15.out hb16)
    have HV16 := Lib.hid (HV15.out.kp (Kp.below hb16 (by omega)))
    have z16 : U15.heap.size ≤ w16.heap.size := hb16.size
    have zx16 : w12.heap.size < w16.heap.size := by omega
    have zo16 : w12.heap.size + 1 < w16.heap.size := by omega
    have zy16 : B6 < w16.heap.size := by omega
    have KJ2 := Lib.hid (fun (U : World) (hU : Below w16.heap.size w16 U) => stjoin_any (fun b => b ≠ sb) _ _ _ _ RX LX 6 1 2 100 U ((HV16.out.kp (Kp.below hU (by omega))).mono (fun b hb _ => hb.2)) (fun b hb => by have := hU.size; omega))
    rw [hj2] at KJ2
    clear hb16
    go_wp2_with fail
    refine (KJ2.out _ (bal brefl _)).mono ?_
    rintro e w17 hg
    obtain ⟨_, _, _, _, _, _, _, _, _, _, _, _, rfl, -, -, hb17⟩ := hg.shape
    clear hg
    have hb17' := bup (bal brefl _) hb17
    clear hb17
    replace u0 := keepB hb17' u0
    replace u1 := keepB hb17' u1
    replace u2 := keepB hb17' u2
    replace u3 := keepB hb17' u3
    replace y0 := keepB hb17' y0
    replace y1 := keepB hb17' y1
    replace y2 := keepB hb17' y2
    replace y3 := keepB hb17' y3
    replace y4 := keepB hb17' y4
    replace r0 := keepB hb17' r0
    replace r1 := keepB hb17' r1
    replace r2 := keepB hb17' r2
    replace r3 := keepB hb17' r3
    replace o0 := keepB hb17' o0
    replace o1 := keepB hb17' o1
    replace o2 := keepB hb17' o2
    replace o3 := keepB hb17' o3
    replace o4 := keepB hb17' o4
    have HB17 := Lib.hid (bup HB16.out hb17')
    have HV17 := Lib.hid (HV16.out.kp (Kp.below hb17' (by omega)))
    have z17 : w16.heap.size ≤ w17.heap.size := hb17'.size
    have zx17 : w12.heap.size < w17.heap.size := by omega
    have zo17 : w12.heap.size + 1 < w17.heap.size := by omega
    have zy17 : B6 < w17.heap.size := by omega
    have zv17 : w3.heap.size < w17.heap.size := by omega
    clear hb17'
    have KM2 := Lib.hid (fun (U : World) (hU : Below w17.heap.size w17 U) => stmove_any (fun b => b ≠ sb) _ _ _ _ RX LX vs vd vp 2 (100 * q) 1 U ((HV17.out.kp (Kp.below hU (by omega))).mono (fun b hb _ => hb.2)) (fun b hb => by have := hU.size; omega))
    rw [he2, hr2, hl2] at KM2
    go_wp2_with fail
    refine (KM2.out _ (bal (bal brefl _) _)).mono ?_
    rintro e w18 hg
    obtain ⟨h0, i0, j0, h1', i1, j1, h2', i2, j2, h3, i3, j3, rfl, hv18, hb18⟩ := GaveV.got hg mv_c (by show mL.length ≤ _; rw [mv_l]; simp)
    have hb18' := bup (bal (bal brefl _) _) hb18
    clear hg hb18
    replace u0 := keepB hb18' u0
    replace u1 := keepB hb18' u1
    replace u2 := keepB hb18' u2
    replace u3 := keepB hb18' u3
    replace y0 := keepB hb18' y0
    replace y1 := keepB hb18' y1
    replace y2 := keepB hb18' y2
    replace y3 := keepB hb18' y3
    replace y4 := keepB hb18' y4
    replace r0 := keepB hb18' r0
    replace r1 := keepB hb18' r1
    replace r2 := keepB hb18' r2
    replace r3 := keepB hb18' r3
    replace o0 := keepB hb18' o0
    replace o1 := keepB hb18' o1
    replace o2 := keepB hb18' o2
    replace o3 := keepB hb18' o3
    replace o4 := keepB hb18' o4
    have z18 : w17.heap.size ≤ w18.heap.size := hb18'.size
    go_upto_region 17 with fail
    obtain ⟨W18, hW18⟩ : ∃ W, W = w18.alloc (.cells #[.slice h0 i0 j0, .slice h1' i1 j1, .slice h2' i2 j2, .slice h3 i3 j3] 69 (0, 0)) := ⟨_, rfl⟩
    try rw [← hW18]
    have hbW : Below w18.heap.size w18 W18 := by rw [hW18]; exact bal brefl _
    have uz0 := up_cell (show W18.cell? ⟨w18.heap.size, 0, none⟩ = some (.slice h0 i0 j0) by rw [hW18]; exact World.cell?_alloc_at _ _ _ _ rfl)
    have uz1 := up_cell (show W18.cell? ⟨w18.heap.size, 1, none⟩ = some (.slice h1' i1 j1) by rw [hW18]; exact World.cell?_alloc_at _ _ _ _ rfl)
    have uz2 := up_cell (show W18.cell? ⟨w18.heap.size, 2, none⟩ = some (.slice h2' i2 j2) by rw [hW18]; exact World.cell?_alloc_at _ _ _ _ rfl)
    have uz3 := up_cell (show W18.cell? ⟨w18.heap.size, 3, none⟩ = some (.slice h3 i3 j3) by rw [hW18]; exact World.cell?_alloc_at _ _ _ _ rfl)
    have uu0 := up_cell (keepB hbW u0)
    have uu1 := up_cell (keepB hbW u1)
    have uu2 := up_cell (keepB hbW u2)
    have uu3 := up_cell (keepB hbW u3)
    have uy0 := up_cell (keepB hbW y0)
    have uy1 := up_cell (keepB hbW y1)
    have uy2 := up_cell (keepB hbW y2)
    have uy3 := up_cell (keepB hbW y3)
    have uy4 := up_cell (keepB hbW y4)
    have ur0 := up_cell (keepB hbW r0)
    have ur1 := up_cell (keepB hbW r1)
    have ur2 := up_cell (keepB hbW r2)
    have ur3 := up_cell (keepB hbW r3)
    have uo0 := up_cell (keepB hbW o0)
    have uo1 := up_cell (keepB hbW o1)
    have uo2 := up_cell (keepB hbW o2)
    have uo3 := up_cell (keepB hbW o3)
    have uo4 := up_cell (keepB hbW o4)
    have HVX := Lib.hid (HV17.out.kp (Kp.below (bup hb18' hbW) (by omega)))
    have HVV := Lib.hid (HV11.out.kp (Kp.below (bup HB12.out (bup HB17.out (bup hb18' hbW))) (by omega)))
    have HVZ := Lib.hid (VkIn.below hv18 hbW)
    have KH1 := Lib.hid (fun (U : World) (hU : Below W18.heap.size W18 U) => vheld_any _ _ _ _ _ RX LX vs vd vp 1 (100 * q) U (HVX.out.below hU))
    have KH2 := Lib.hid (fun (U : World) (hU : Below W18.heap.size W18 U) => vheld_any _ _ _ _ _ RX LX vs vd vp 2 (100 * q) U (HVX.out.below hU))
    have KSM := Lib.hid (fun (U : World) (hU : Below W18.heap.size W18 U) => fvsame_eq _ _ _ _ _ _ _ _ _ _ mR mL U (HVZ.out.below hU) (HVV.out.below hU))
    rw [hn1] at KH1
    rw [hn2] at KH2
    have HFIN := Lib.hid (bup HBW11.out (bup HB12.out (bup HB17.out (bup hb18' hbW))))
    clear hW18 hbW hb18' hv18 u0 u1 u2 u3 y0 y1 y2 y3 y4 r0 r1 r2 r3 o0 o1 o2 o3 o4
    (refine wp_region_up (by kernel_rfl) (by kernel_rfl) ?_); (repeat (go_big_quiet_step ((first | (go_at_call 54; (first | (with_reducible refine (KH1.out _ (up_prop _)).mono ?_) | (with_reducible refine (KH2.out _ (up_prop _)).mono ?_)); exact fun _ _ hh => ⟨hh.1, ⟨_, bup (up_prop _) hh.2⟩, rfl⟩) | (go_at_call 55; refine (KSM.out _ (up_prop _)).mono ?_; exact fun _ _ hh => ⟨hh.1, ⟨_, bup (up_prop _) hh.2⟩, rfl⟩) | (go_at_call 44; refine (sane37_any _).mono ?_; exact fun _ _ hh => ⟨hh.1, ⟨_, bup (up_prop _) hh.2⟩, rfl⟩))))); (refine wpQuiet_nil ?_); (rintro w19 ⟨⟨_, hb19⟩, rfl⟩)
    go_wp2
    go_ret
    exact ⟨rfl, bup HFIN.out hb19⟩
end Go.Proofs.YthhoaefadfeknaaGreat
