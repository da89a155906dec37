/- StripCollects: the plain part, over all draws. StripCollects: the walk. Printed by wip/gen/l37c.py. -/
import Derived.Test.YthhoaefadfeknaaGreatZL37M
import Derived.Test.YthhoaefadfeknaaGreatZFpt
import Derived.Test.YthhoaefadfeknaaGreatZStN
import Derived.Test.YthhoaefadfeknaaGreatZStO
import Derived.Test.YthhoaefadfeknaaGreatZSrcOdd
namespace Go.Proofs.YthhoaefadfeknaaGreat
open Go.RowKit
set_option linter.unusedVariables false
def cR : Reg := spR zR [] 5 1 1 300
def cP : List Stp := partsL zS 5
/-- the strips when k parts have been collected -/
def cS (k : Nat) : List Stp := (cP.take k).map (fun y => ⟨y.s, y.d, y.p, 4, 300⟩) ++ (cP.drop k).map (fun y => ⟨y.s, y.d, y.p, 1, 300⟩)
theorem cl_e : spE zR [] 5 1 1 300 = 0 := by kernel_rfl
theorem cl_l : spL zR [] 5 1 1 300 = cS 0 := by kernel_rfl
theorem cl_c : chkE cR = 0 := by kernel_rfl
theorem cP_l : cP = [⟨1, 180, false, 0, 0⟩, ⟨1, 360, false, 0, 0⟩, ⟨1, 540, false, 0, 0⟩, ⟨1, 720, false, 0, 0⟩, ⟨1, 720, true, 0, 0⟩] := by kernel_rfl
structure ColQ (k : Nat) (s d : Int) (p : Bool) (q : Int) : Prop where
  e1 : mwE cR (cS k) ⟨s, d, p, 1, 300⟩ q = 0
  r1 : mwR cR (cS k) ⟨s, d, p, 1, 300⟩ q = cR
  l1 : decide ((mwL cR (cS k) ⟨s, d, p, 1, 300⟩ q).length ≤ 10) = true
  e2 : mwE cR (mwL cR (cS k) ⟨s, d, p, 1, 300⟩ q) ⟨s, d, p, q, 300⟩ 4 = 0
  r2 : mwR cR (mwL cR (cS k) ⟨s, d, p, 1, 300⟩ q) ⟨s, d, p, q, 300⟩ 4 = cR
  l2 : mwL cR (mwL cR (cS k) ⟨s, d, p, 1, 300⟩ q) ⟨s, d, p, q, 300⟩ 4 = cS (k + 1)
set_option maxHeartbeats 4000000 in
theorem colq {k : Nat} {s d : Int} {p : Bool} {h a : Int} (hk : cP[k]? = some ⟨s, d, p, h, a⟩) {q : Int} (hq : q ∈ ([2, 3] : List Int)) : ColQ k s d p q := by
  rw [cP_l] at hk
  have hk5 : k < 5 := by have := (List.getElem?_eq_some_iff.1 hk).1; simpa using this
  have hkc : k = 0 ∨ k = 1 ∨ k = 2 ∨ k = 3 ∨ k = 4 := by omega
  have hqc : q = 2 ∨ q = 3 := by simpa using hq
  rcases hkc with rfl | rfl | rfl | rfl | rfl
  all_goals
    simp only [List.getElem?_cons_zero, List.getElem?_cons_succ, Option.some.injEq, Stp.mk.injEq] at hk
    obtain ⟨rfl, rfl, rfl, rfl, rfl⟩ := hk
    rcases hqc with rfl | rfl
    all_goals exact ⟨by kernel_rfl, by kernel_rfl, by kernel_rfl, by kernel_rfl, by kernel_rfl, by kernel_rfl⟩
theorem cS_len (k : Nat) : (cS k).length = 5 := by
  unfold cS
  rw [List.length_append, List.length_map, List.length_map, ← List.length_append, List.take_append_drop, cP_l]; rfl
def cZ : Reg := jnR cR (cS 5) 6 1 4 300
theorem co_j1 : jnE cR (cS 5) 6 1 1 100 = 77 := by kernel_rfl
theorem co_j2 : jnE cR (cS 5) 6 1 4 300 = 0 := by kernel_rfl
theorem co_l : jnL cR (cS 5) 6 1 4 300 = [] := by kernel_rfl
theorem co_c : chkE cZ = 0 := by kernel_rfl
theorem co_h4 : rgHeld cZ 1 4 = 300 := by kernel_rfl
theorem co_h1 : rgHeld cZ 1 1 = 700 := by kernel_rfl
theorem co_o : rgOut cZ 1 = 1000 := by kernel_rfl
/-! what stays in blocks with Q -/
def Kw (Q : Nat → Prop) (w w' : World) : Prop := w.heap.size ≤ w'.heap.size ∧ ∀ b, Q b → b < w.heap.size → w'.heap[b]? = w.heap[b]?
section
variable {Q : Nat → Prop} {w w' w'' : World}
theorem Kw.refl : Kw Q w w := ⟨Nat.le_refl _, fun _ _ _ => rfl⟩
theorem Kw.trans (h : Kw Q w w') (k : Kw Q w' w'') : Kw Q w w'' := ⟨Nat.le_trans h.1 k.1, fun b hb hl => (k.2 b hb (Nat.lt_of_lt_of_le hl h.1)).trans (h.2 b hb hl)⟩
theorem Kw.below (h : Below w.heap.size w w') : Kw Q w w' := ⟨h.size, fun b _ hl => h.block b hl⟩
theorem Kw.grown {sb : Nat} (h : w.grownBy w' (some sb)) (hQ : ∀ b, Q b → b ≠ sb) : Kw Q w w' := ⟨h.size, fun b hb hl => h.block b hl (by simpa using hQ b hb)⟩
theorem Kw.set {g o : Nat} {v : Value} (hQ : ∀ b, Q b → b ≠ g) : Kw Q w (w.setCell ⟨g, o, none⟩ v) := ⟨by simp [World.setCell], fun k hk _ => Below.heap_setCell _ _ _ _ (by simp only; exact fun h => hQ k hk h)⟩
theorem Kw.low (h : Kw (fun b => Q b ∧ b < w.heap.size) w w') : Kw Q w w' := ⟨h.1, fun b hb hl => h.2 b ⟨hb, hl⟩ hl⟩
theorem Kw.sl {α : Type} {z : Nat} {enc : α → List Value} {v : Value} {L : List α} (k : Kw Q w w') (h : Sl z enc Q w v L) : Sl z enc Q w' v L := h.block k.1 fun b hb hl => k.2 b hb hl
theorem VkIn.kw {vs vh vm vt : Value} {R : Reg} {L : List Stp} (h : VkIn Q w vs vh vm vt R L) (k : Kw Q w w') : VkIn Q w' vs vh vm vt R L :=
  ⟨⟨k.sl h.rg.S, k.sl h.rg.H, k.sl h.rg.M⟩, k.sl h.st, h.lS, h.lH, h.lM, h.lL⟩
end
end Go.Proofs.YthhoaefadfeknaaGreat
namespace Go.Proofs.YthhoaefadfeknaaGreat
open Go.RowKit
set_option linter.unusedVariables false
set_option linter.unusedSimpArgs false
/-- where the rounds stand: the vault in its box Bv, k parts collected -/
def ColW (w : World) (sb Bv k : Nat) (W : World) (y0 y1 y2 y3 : Value) : Prop :=
  W.heap[Bv]? = some (.cells #[y0, y1, y2, y3] 69 (0, 0)) ∧ VkIn (fun b => b ≠ sb ∧ b ≠ Bv) W y0 y1 y2 y3 cR (cS k) ∧ SrcOk W sb ∧ Below w.heap.size w W
theorem colW_alloc {w W : World} {sb Bv k : Nat} {y0 y1 y2 y3 : Value} (h : ColW w sb Bv k W y0 y1 y2 y3) (o : Obj) : ColW w sb Bv k (W.alloc o) y0 y1 y2 y3 :=
  ⟨(heap_alloc_old W o (Array.getElem?_eq_some_iff.1 h.1).1).trans h.1, h.2.1.below (bal brefl _), srcOk_alloc h.2.2.1 _, bal h.2.2.2 _⟩
set_option maxHeartbeats 16000000 in
set_option maxRecDepth 100000 in
theorem collects_walk (k0 : Option Addr) (len0 cap0 : Nat) (w : World) (h1 : len0 ≤ cap0) (h2 : cap0 ≤ maxLen) (hz : len0 = 0 ∨ ∃ b off, k0 = some ⟨b, off, none⟩ ∧ ∀ i, i < len0 → ∃ z : Int, w.cell? ⟨b, off + i, none⟩ = some (.int .i64 z)) :
    Calls Tryz.prog 6 #[.slice k0 len0 cap0] w fun e w' => e = .returned (.bool true) ∧ Below w.heap.size w w' := by
  go_enter Tryz.func6, Tryz.ntmps6
  go_wp2_with fail
  refine (new_any k0 len0 cap0 w h1 h2 hz).mono ?_
  rintro e w1 ⟨sb, rfl, hsb, hS1, hB1⟩
  clear hz
  have hlt1 := srcOk_lt hS1
  have HS1 := Lib.hid hS1
  have HB1 := Lib.hid hB1
  clear hS1 hB1
  go_wp2_with fail
  refine (whole_any _).mono ?_
  rintro e w2 ⟨a0, n0, c0, a1, n1, c1, a2, n2, c2, a3, n3, c3, rfl, hv2, hb2⟩
  have KS := stsplit_any (fun b => b ≠ sb) _ _ _ _ zR [] 5 1 1 300 w2 (hv2.mono (fun b hb _ => by omega)) (fun b hb => by have := hb2.size; omega)
  rw [cl_e] at KS
  have HKS := Lib.hid KS
  have HB2 := Lib.hid hb2
  clear KS hv2 hb2
  go_wp2_with fail
  refine HKS.out.mono ?_
  rintro e w3 hg
  obtain ⟨e0, m0, d0, e1, m1, d1, e2, m2, d2, e3, m3, d3, rfl, hv3, hb3⟩ := GaveV.got hg cl_c (by show (spL zR [] 5 1 1 300).length ≤ _; rw [cl_l, cS_len]; omega)
  rw [cl_l] at hv3
  have HV3 := Lib.hid (show VkIn (fun b => b ≠ sb ∧ b ≠ w3.heap.size) w3 (.slice e0 m0 d0) (.slice e1 m1 d1) (.slice e2 m2 d2) (.slice e3 m3 d3) cR (cS 0) from hv3.mono (fun b hb hlt => ⟨hb, by omega⟩))
  have HB3 := Lib.hid (bup HB2.out hb3)
  have z3 : sb < w3.heap.size := by have := HB3.out.size; omega
  clear hg hv3 hb3
  go_upto_region 3 with fail
  obtain ⟨W3, hW3⟩ : ∃ W, W = w3.alloc (.cells #[.slice e0 m0 d0, .slice e1 m1 d1, .slice e2 m2 d2, .slice e3 m3 d3] 69 (0, 0)) := ⟨_, rfl⟩
  try rw [← hW3]
  have HBW := Lib.hid (show Below w3.heap.size w3 W3 by rw [hW3]; exact bal brefl _)
  have zW : w3.heap.size < W3.heap.size := by rw [hW3]; simp
  have hBx : W3.heap[w3.heap.size]? = some (.cells #[.slice e0 m0 d0, .slice e1 m1 d1, .slice e2 m2 d2, .slice e3 m3 d3] 69 (0, 0)) := by rw [hW3]; exact heap_alloc_new w3 _
  have HC3 := Lib.hid (show ColW w sb w3.heap.size 0 W3 (.slice e0 m0 d0) (.slice e1 m1 d1) (.slice e2 m2 d2) (.slice e3 m3 d3) from ⟨hBx, HV3.out.below HBW.out, srcOk_below (srcOk_below HS1.out HB3.out hlt1) HBW.out z3, bup (bup HB1.out HB3.out) HBW.out⟩)
  clear hW3 hBx
  go_wp2_with fail
  refine (fparts_any 1 100 0 720 5000 6 false 5 W3).mono ?_
  rintro e w4 ⟨v4, rfl, ho4, hb4⟩
  have hn5 : (partsL ⟨1, 100, 0, 720, 5000, 6, false⟩ 5).length = 5 := by show cP.length = 5; rw [cP_l]; rfl
  have HPL := Lib.hid (show Sl 5 encStp (fun b => b ≠ sb ∧ b ≠ w3.heap.size) w4 v4 cP from Sl.own encStp_len ho4 rfl (fun b hb => ⟨by omega, by omega⟩))
  have hC4 : ColW w sb w3.heap.size 0 w4 (.slice e0 m0 d0) (.slice e1 m1 d1) (.slice e2 m2 d2) (.slice e3 m3 d3) := ⟨(hb4.block _ zW).trans HC3.out.1, HC3.out.2.1.below hb4, srcOk_below HC3.out.2.2.1 hb4 (by omega), bup HC3.out.2.2.2 hb4⟩
  have HC4 := Lib.hid hC4
  have zW4 : w3.heap.size < w4.heap.size := by have := hb4.size; omega
  rw [hn5] at ho4
  obtain ⟨ao4, cp4, rfl⟩ := own_sl ho4
  clear ho4 hb4 hC4 hn5
  go_wp2_with fail
  go_loopw [29] (fun iv wr => ∃ (k : Nat) (y0 y1 y2 y3 : Value), k ≤ 5 ∧ iv = .int .i64 k ∧ ColW w sb w3.heap.size k wr y0 y1 y2 y3 ∧ Kw (fun b => b ≠ sb ∧ b ≠ w3.heap.size) w4 wr) (fun iv _ => 5 - (intOf iv).toNat)
  case atStart => exact ⟨0, _, _, _, _, by omega, rfl, HC4.out, Kw.refl⟩
  case round =>
    obtain ⟨k, y0, y1, y2, y3, hk, rfl, ⟨hbx, hvk, hso, hbw⟩, hkw⟩ := hrel
    obtain ⟨e0, m0, d0, rfl, -, -, -⟩ := hvk.rg.S.shape
    obtain ⟨e1, m1, d1, rfl, -, -, -⟩ := hvk.rg.H.shape
    obtain ⟨e2, m2, d2, rfl, -, -, -⟩ := hvk.rg.M.shape
    obtain ⟨e3, m3, d3, rfl, -, -, -⟩ := hvk.st.shape
    have zs := srcOk_lt hso
    have zv : w3.heap.size < wr.heap.size := (Array.getElem?_eq_some_iff.1 hbx).1
    have hns : ¬ w3.heap.size = sb := by omega
    have v0 : wr.cell? ⟨w3.heap.size, 0, none⟩ = some (.slice e0 m0 d0) := cell_heap hbx rfl
    have v1 : wr.cell? ⟨w3.heap.size, 1, none⟩ = some (.slice e1 m1 d1) := cell_heap hbx rfl
    have v2 : wr.cell? ⟨w3.heap.size, 2, none⟩ = some (.slice e2 m2 d2) := cell_heap hbx rfl
    have v3 : wr.cell? ⟨w3.heap.size, 3, none⟩ = some (.slice e3 m3 d3) := cell_heap hbx rfl
    have vf : ∀ o, wr.frozen? ⟨w3.heap.size, o, none⟩ = false := fun o => frozen_of_row wr _ _ _ _ hbx
    have HBX := Lib.hid hbx
    have HVK := Lib.hid hvk
    have HSO := Lib.hid hso
    have HBW2 := Lib.hid hbw
    have HKW := Lib.hid hkw
    by_cases hlt : k < 5
    · obtain ⟨bb, off, s, d, p, xh, xa, rfl, -, hbb, hL, l0, l1, l2, l3, l4⟩ := (hkw.sl HPL.out).stp hlt
      have HL := Lib.hid hL
      have kz : (k : Int) < 5 := by omega
      clear hbx hvk hso hbw hkw hL
      go_upto_region 9 with fail
      obtain ⟨U1, hU1⟩ : ∃ U, U = wr.alloc (.cells #[.int .i64 s, .int .i64 d, .bool p, .int .i64 1, .int .i64 300] 88 (0, 0)) := ⟨_, rfl⟩
      try rw [← hU1]
      have HU1 := Lib.hid (show Below wr.heap.size wr U1 by rw [hU1]; exact bal brefl _)
      have hY1 : U1.heap[wr.heap.size]? = some (.cells #[.int .i64 s, .int .i64 d, .bool p, .int .i64 1, .int .i64 300] 88 (0, 0)) := by rw [hU1]; exact heap_alloc_new wr _
      have HY1 := Lib.hid hY1
      have zy : wr.heap.size < U1.heap.size := (Array.getElem?_eq_some_iff.1 hY1).1
      clear hU1 hY1
      go_wp2_with fail
      refine (pick_any sb U1.heap.size [2, 3] 2 2 (U1.alloc (.cells #[.int .i64 2, .int .i64 3] 3)) (srcOk_alloc (srcOk_below HSO.out HU1.out zs) _) (by omega) (by decide) (by decide) rfl (by intro i h; match i, h with | 0, _ => exact World.cell?_alloc_at _ _ _ _ rfl | 1, _ => exact World.cell?_alloc_at _ _ _ _ rfl)).mono ?_
      rintro e w5 ⟨q, hq, rfl, hS5, hG5⟩
      have HQ := Lib.hid (colq HL.out hq)
      have hG5' : U1.grownBy w5 (some sb) := ztrans (zbelow (bal brefl _) _) hG5
      have hW5 : wr.grownBy w5 (some sb) := ztrans (zbelow HU1.out _) hG5'
      have hbx5 := (hW5.block _ zv (by simp; omega)).trans HBX.out
      have hY5 := (hG5'.block _ zy (by simp; omega)).trans HY1.out
      have w0 : w5.cell? ⟨w3.heap.size, 0, none⟩ = some (.slice e0 m0 d0) := cell_heap hbx5 rfl
      have w1' : w5.cell? ⟨w3.heap.size, 1, none⟩ = some (.slice e1 m1 d1) := cell_heap hbx5 rfl
      have w2' : w5.cell? ⟨w3.heap.size, 2, none⟩ = some (.slice e2 m2 d2) := cell_heap hbx5 rfl
      have w3' : w5.cell? ⟨w3.heap.size, 3, none⟩ = some (.slice e3 m3 d3) := cell_heap hbx5 rfl
      have x0 : w5.cell? ⟨wr.heap.size, 0, none⟩ = some (.int .i64 s) := cell_heap hY5 rfl
      have x1 : w5.cell? ⟨wr.heap.size, 1, none⟩ = some (.int .i64 d) := cell_heap hY5 rfl
      have x2 : w5.cell? ⟨wr.heap.size, 2, none⟩ = some (.bool p) := cell_heap hY5 rfl
      have x3 : w5.cell? ⟨wr.heap.size, 3, none⟩ = some (.int .i64 1) := cell_heap hY5 rfl
      have x4 : w5.cell? ⟨wr.heap.size, 4, none⟩ = some (.int .i64 300) := cell_heap hY5 rfl
      have yf : ∀ o, w5.frozen? ⟨wr.heap.size, o, none⟩ = false := fun o => frozen_of_row w5 _ _ _ _ hY5
      have zz5 : wr.heap.size < w5.heap.size := (Array.getElem?_eq_some_iff.1 hY5).1
      have zv5 : w3.heap.size < w5.heap.size := by omega
      have zs5 : sb < w5.heap.size := by omega
      have hkw5 : ∀ {Q : Nat → Prop}, (∀ b, Q b → b ≠ sb) → Kw Q wr w5 := fun hQ => Kw.grown hW5 hQ
      have HV5 := Lib.hid ((HVK.out.mono (Q := fun b => (b ≠ sb ∧ b ≠ w3.heap.size) ∧ b ≠ wr.heap.size) (fun b hb hl => ⟨hb, by omega⟩)).kw (hkw5 (fun b hb => hb.1.1)))
      have HK5 := Lib.hid (hkw5 (Q := fun b => b ≠ sb ∧ b ≠ w3.heap.size) (fun b hb => hb.1))
      have hkw5' : ∀ {Q : Nat → Prop}, (∀ b, Q b → b ≠ sb) → Kw Q wr w5 := hkw5
      have HS5 := Lib.hid hS5
      have HX5 := Lib.hid hbx5
      have HB5 := Lib.hid (HBW2.out.trans (below_of_grown hW5 hsb (by have := HBW2.out.size; omega)))
      have KM1 := stmove_any (fun b => (b ≠ sb ∧ b ≠ w3.heap.size) ∧ b ≠ wr.heap.size) _ _ _ _ cR (cS k) s d p 1 300 q w5 HV5.out (fun b hb => ⟨⟨by omega, by omega⟩, by omega⟩)
      rw [HQ.out.e1, HQ.out.r1] at KM1
      have HKM1 := Lib.hid KM1
      clear hq hS5 hG5 hG5' hW5 hbx5 hY5 hkw5 KM1 vf v0 v1 v2 v3
      go_wp2_with fail
      refine HKM1.out.mono ?_
      rintro e w6 hg
      obtain ⟨LX, hLX⟩ : ∃ R, mwL cR (cS k) ⟨s, d, p, 1, 300⟩ q = R := ⟨_, rfl⟩
      have hl1 := HQ.out.l1
      have he2 := HQ.out.e2
      have hr2 := HQ.out.r2
      have hl2 := HQ.out.l2
      rw [hLX] at hg hl1 he2 hr2 hl2
      have hl1' : LX.length ≤ 10 := of_decide_eq_true hl1
      obtain ⟨f0, p0, g0, f1, p1, g1, f2, p2, g2, f3, p3, g3, rfl, hv6, hb6⟩ := GaveV.got hg cl_c (by omega)
      have HV6 := Lib.hid hv6
      have HB6 := Lib.hid hb6
      have z56 : w5.heap.size ≤ w6.heap.size := hb6.size
      replace x0 := keepB hb6 x0
      replace x1 := keepB hb6 x1
      replace x2 := keepB hb6 x2
      replace x3 := keepB hb6 x3
      replace x4 := keepB hb6 x4
      have yf6 : ∀ o, w6.frozen? ⟨wr.heap.size, o, none⟩ = false := fun o => (hb6.frozen (p := ⟨wr.heap.size, o, none⟩) zz5).trans (yf o)
      have zz6 : wr.heap.size < w6.heap.size := by omega
      have zv6 : w3.heap.size < w6.heap.size := by omega
      have hX6 := (hb6.block _ zv5).trans HX5.out
      clear hg hv6 hb6 yf w0 w1' w2' w3'
      go_upto_region 12 with fail
      obtain ⟨U7, hU7⟩ : ∃ U, U = (w6.setCell ⟨wr.heap.size, 3, none⟩ (.int .i64 q)).alloc (.cells #[.slice f0 p0 g0, .slice f1 p1 g1, .slice f2 p2 g2, .slice f3 p3 g3] 69 (0, 0)) := ⟨_, rfl⟩
      try rw [← hU7]
      have r0 : U7.cell? ⟨w6.heap.size, 0, none⟩ = some (.slice f0 p0 g0) := by rw [hU7]; exact World.cell?_alloc_at _ _ _ _ (by simp [World.setCell])
      have r1 : U7.cell? ⟨w6.heap.size, 1, none⟩ = some (.slice f1 p1 g1) := by rw [hU7]; exact World.cell?_alloc_at _ _ _ _ (by simp [World.setCell])
      have r2 : U7.cell? ⟨w6.heap.size, 2, none⟩ = some (.slice f2 p2 g2) := by rw [hU7]; exact World.cell?_alloc_at _ _ _ _ (by simp [World.setCell])
      have r3 : U7.cell? ⟨w6.heap.size, 3, none⟩ = some (.slice f3 p3 g3) := by rw [hU7]; exact World.cell?_alloc_at _ _ _ _ (by simp [World.setCell])
      replace x0 : U7.cell? ⟨wr.heap.size, 0, none⟩ = some (.int .i64 s) := by rw [hU7]; exact keepA ((World.cell?_setCell_other _ _ _ _ (by simp)).trans x0)
      replace x1 : U7.cell? ⟨wr.heap.size, 1, none⟩ = some (.int .i64 d) := by rw [hU7]; exact keepA ((World.cell?_setCell_other _ _ _ _ (by simp)).trans x1)
      replace x2 : U7.cell? ⟨wr.heap.size, 2, none⟩ = some (.bool p) := by rw [hU7]; exact keepA ((World.cell?_setCell_other _ _ _ _ (by simp)).trans x2)
      replace x3 : U7.cell? ⟨wr.heap.size, 3, none⟩ = some (.int .i64 q) := by rw [hU7]; exact keepA (World.cell?_setCell_same _ _ _ x3)
      replace x4 : U7.cell? ⟨wr.heap.size, 4, none⟩ = some (.int .i64 300) := by rw [hU7]; exact keepA ((World.cell?_setCell_other _ _ _ _ (by simp)).trans x4)
      have hbU : Below wr.heap.size w6 U7 := by rw [hU7]; exact ((Below.refl wr.heap.size w6).setCell (p := ⟨wr.heap.size, 3, none⟩) (Nat.le_refl _) _).alloc (by simp [World.setCell]; omega) _
      have hkU : ∀ {Q : Nat → Prop}, (∀ b, Q b → b ≠ wr.heap.size) → Kw Q w6 U7 := fun hQ => by rw [hU7]; exact (Kw.set hQ).trans (Kw.below (bal brefl _))
      have hX7 := (hbU.block w3.heap.size zv).trans hX6
      have HV7 := Lib.hid (HV6.out.kw (hkU (fun b hb => hb.2)))
      have HS7 := Lib.hid (srcOk_below (srcOk_below HS5.out HB6.out zs5) hbU zs)
      have z67 : w6.heap.size ≤ U7.heap.size := hbU.size
      have KM2 := stmove_any (fun b => b ≠ sb ∧ b ≠ w3.heap.size) _ _ _ _ cR LX s d p q 300 4 U7 (HV7.out.mono (fun b hb _ => hb.1)) (fun b hb => ⟨by omega, by omega⟩)
      rw [he2, hr2, hl2] at KM2
      have HKM2 := Lib.hid KM2
      have HBU := Lib.hid hbU
      have HX7 := Lib.hid hX7
      have HK7 := Lib.hid (show Kw (fun b => (b ≠ sb ∧ b ≠ w3.heap.size) ∧ b < wr.heap.size) wr U7 from (hkw5' (fun b hb => hb.1.1)).trans ((Kw.below HB6.out).trans (hkU (fun b hb => by omega))))
      clear KM2 hU7 hbU hkU hX6 hX7 yf6
      go_wp2_with fail
      refine HKM2.out.mono ?_
      rintro e w8 hg
      obtain ⟨h0, i0, j0, h1', i1, j1, h2', i2, j2, h3, i3, j3, rfl, hv8, hb8⟩ := GaveV.got hg cl_c (by rw [cS_len]; omega)
      have z78 : U7.heap.size ≤ w8.heap.size := hb8.size
      have hX8 := (hb8.block w3.heap.size (by omega)).trans HX7.out
      have b0 : w8.cell? ⟨w3.heap.size, 0, none⟩ = some (.slice e0 m0 d0) := cell_heap hX8 rfl
      have b1 : w8.cell? ⟨w3.heap.size, 1, none⟩ = some (.slice e1 m1 d1) := cell_heap hX8 rfl
      have b2 : w8.cell? ⟨w3.heap.size, 2, none⟩ = some (.slice e2 m2 d2) := cell_heap hX8 rfl
      have b3 : w8.cell? ⟨w3.heap.size, 3, none⟩ = some (.slice e3 m3 d3) := cell_heap hX8 rfl
      have bf8 : ∀ o, w8.frozen? ⟨w3.heap.size, o, none⟩ = false := fun o => frozen_of_row w8 _ _ _ _ hX8
      have HV8 := Lib.hid hv8
      have HX8 := Lib.hid hX8
      have HS8 := Lib.hid (srcOk_below HS7.out hb8 (by omega))
      have zwr : w.heap.size ≤ wr.heap.size := HBW2.out.size
      have hb8w := HB5.out.trans ((HB6.out.mono HB5.out.size).trans ((HBU.out.mono zwr).trans (hb8.mono (by omega))))
      have HB8 := Lib.hid hb8w
      have hg4 := vgrown4 w8 w3.heap.size (.slice h0 i0 j0) (.slice h1' i1 j1) (.slice h2' i2 j2) (.slice h3 i3 j3)
      have hb4' : Below w3.heap.size w8 ((((w8.setCell ⟨w3.heap.size, 0, none⟩ (.slice h0 i0 j0)).setCell ⟨w3.heap.size, 1, none⟩ (.slice h1' i1 j1)).setCell ⟨w3.heap.size, 2, none⟩ (.slice h2' i2 j2)).setCell ⟨w3.heap.size, 3, none⟩ (.slice h3 i3 j3)) :=
        ((((Below.refl w3.heap.size w8).setCell (p := ⟨w3.heap.size, 0, none⟩) (Nat.le_refl _) _).setCell (p := ⟨w3.heap.size, 1, none⟩) (Nat.le_refl _) _).setCell (p := ⟨w3.heap.size, 2, none⟩) (Nat.le_refl _) _).setCell (p := ⟨w3.heap.size, 3, none⟩) (Nat.le_refl _) _
      have HC9 := Lib.hid (show ColW w sb w3.heap.size (k + 1) ((((w8.setCell ⟨w3.heap.size, 0, none⟩ (.slice h0 i0 j0)).setCell ⟨w3.heap.size, 1, none⟩ (.slice h1' i1 j1)).setCell ⟨w3.heap.size, 2, none⟩ (.slice h2' i2 j2)).setCell ⟨w3.heap.size, 3, none⟩ (.slice h3 i3 j3)) (.slice h0 i0 j0) (.slice h1' i1 j1) (.slice h2' i2 j2) (.slice h3 i3 j3) from
        ⟨vheap4 _ _ _ _ hX8, hv8.kw (Kw.grown hg4 (fun b hb => hb.2)), srcOk_below HS8.out hb4' z3, hb8w.trans (hb4'.mono (by have := HB3.out.size; have := HB1.out.size; omega))⟩)
      have HK9 := Lib.hid ((HKW.out.trans (HK7.out.low)).trans (Kw.below hb8)).trans (Kw.grown hg4 (fun b hb => hb.2))
      have zv8 : w3.heap.size < w8.heap.size := by omega
      clear hg hv8 hb8 hX8 hb8w hg4 hb4'
      go_wp2
      go_roundw
      case rel => exact ⟨k + 1, _, _, _, _, by omega, by go_num, colW_alloc HC9.out _, HK9.trans (Kw.below (bal brefl _))⟩
      case measure => simp [intOf]; omega
    · obtain rfl : k = 5 := by omega
      have KJ1 := Lib.hid (fun (U : World) (hU : Below wr.heap.size wr U) => stjoin_any (fun b => b ≠ sb ∧ b ≠ w3.heap.size) _ _ _ _ cR (cS 5) 6 1 1 100 U (HVK.out.below hU) (fun b hb => ⟨by have := hU.size; omega, by have := hU.size; omega⟩))
      have KJ2 := Lib.hid (fun (U : World) (hU : Below wr.heap.size wr U) => stjoin_any (fun b => b ≠ sb ∧ b ≠ w3.heap.size) _ _ _ _ cR (cS 5) 6 1 4 300 U (HVK.out.below hU) (fun b hb => ⟨by have := hU.size; omega, by have := hU.size; omega⟩))
      rw [co_j1] at KJ1
      rw [co_j2, co_l] at KJ2
      clear hbx hvk hso hbw hkw vf
      go_wp2_with fail
      refine (KJ1.out _ brefl).mono ?_
      rintro e w5 hg
      obtain ⟨_, _, _, _, _, _, _, _, _, _, _, _, rfl, -, -, hb5⟩ := hg.shape
      have zv5 : w3.heap.size < w5.heap.size := by have := hb5.size; omega
      replace v0 := keepB hb5 v0
      replace v1 := keepB hb5 v1
      replace v2 := keepB hb5 v2
      replace v3 := keepB hb5 v3
      have HB5 := Lib.hid (bal hb5 (.cells #[.slice none 0 0, .slice none 0 0, .slice none 0 0, .slice none 0 0] 69 (0, 0)))
      have HB5' := Lib.hid hb5
      clear hg hb5
      go_wp2_with fail
      refine (KJ2.out _ (bal HB5'.out _)).mono ?_
      rintro e w6 hg
      obtain ⟨h0, i0, j0, h1', i1, j1, h2', i2, j2, h3, i3, j3, rfl, hv6, hb6⟩ := GaveV.got hg co_c (by simp)
      have hi3 : i3 = 0 := hv6.st.len.symm
      subst hi3
      have K1 := Lib.hid (fun (U : World) (hU : Below w6.heap.size w6 U) => fHeld_any _ _ _ _ cZ 1 4 U (hv6.rg.below hU) hv6.lS hv6.lH hv6.lM)
      have K2 := Lib.hid (fun (U : World) (hU : Below w6.heap.size w6 U) => fHeld_any _ _ _ _ cZ 1 1 U (hv6.rg.below hU) hv6.lS hv6.lH hv6.lM)
      have K3 := Lib.hid (fun (U : World) (hU : Below w6.heap.size w6 U) => fOut_any _ _ _ _ cZ 1 U (hv6.rg.below hU) hv6.lS hv6.lH hv6.lM)
      rw [co_h4] at K1
      rw [co_h1] at K2
      rw [co_o] at K3
      have HB6 := Lib.hid (bup HBW2.out (bup (bal HB5'.out _) hb6))
      clear hg hv6 hb6
      go_wp2_with fail
      refine (K1.out _ (bal brefl _)).mono ?_
      rintro e w7 ⟨rfl, hb7⟩
      have r0 : w7.cell? ⟨w6.heap.size, 0, none⟩ = some (.slice h0 i0 j0) := boxed_cell hb7 0 rfl
      have r1 : w7.cell? ⟨w6.heap.size, 1, none⟩ = some (.slice h1' i1 j1) := boxed_cell hb7 1 rfl
      have r2 : w7.cell? ⟨w6.heap.size, 2, none⟩ = some (.slice h2' i2 j2) := boxed_cell hb7 2 rfl
      have r3 : w7.cell? ⟨w6.heap.size, 3, none⟩ = some (.slice h3 0 j3) := boxed_cell hb7 3 rfl
      have HB7 := Lib.hid (bup (bal brefl _) hb7)
      clear hb7
      go_wp2_with fail
      refine (K2.out _ HB7.out).mono ?_
      rintro e w8 ⟨rfl, hb8⟩
      replace r0 := keepB hb8 r0
      replace r1 := keepB hb8 r1
      replace r2 := keepB hb8 r2
      replace r3 := keepB hb8 r3
      have HB8 := Lib.hid (bup HB7.out hb8)
      clear hb8
      go_wp2_with fail
      refine (K3.out _ HB8.out).mono ?_
      rintro e w9 ⟨rfl, hb9⟩
      have HB9 := Lib.hid (bup HB8.out hb9)
      clear hb9
      go_wp2_with fail
      refine (sane37_any _).mono ?_
      rintro e w10 ⟨rfl, hb10⟩
      go_wp2
      go_ret
      exact ⟨rfl, bup (bup HB6.out HB9.out) hb10⟩
end Go.Proofs.YthhoaefadfeknaaGreat
