/- treasurylaw35.market: the walk. Printed by wip/gen/mkw.py. -/
import Derived.Test.YtmhglabcnimegaaZMkt
namespace Go.Proofs.Ytmhglabcnimegaa
open Go.RowKit
set_option linter.unusedVariables false
set_option linter.unusedSimpArgs false
theorem iss_at {sb : Nat} {w w1 Wc : World} {vs vh vm : Value} {R : Reg} {s t a : Int} (hR1 : RgIn (fun b => w.heap.size + 2 ≤ b) w1 vs vh vm R) (hK : w1.grownBy Wc (some sb)) (hlt : sb < w.heap.size) (hok : RgOk R) :
    Calls Try.prog 39 #[.agg #[vs, vh, vm], .int .i64 0, .int .i64 s, .int .i64 t, .int .i64 a] Wc (GaveR (fun b => (w.heap.size + 2 ≤ b ∧ b < w1.heap.size) ∨ Wc.heap.size ≤ b) (rmR R ⟨0, 0, 1, s, 0, t, a⟩) (rmE R ⟨0, 0, 1, s, 0, t, a⟩) Wc) :=
  fIssue_any _ vs vh vm R 0 s t a Wc (((hR1.mono (Q := fun b => w.heap.size + 2 ≤ b ∧ b < w1.heap.size) (fun b h hl => ⟨h, hl⟩)).grown hK (fun b h => by omega)).mono (fun b h _ => .inl h)) (by have := hok.ls; omega) (by have := hok.hl; omega) (by have := hok.lm; omega) (fun b h => .inr (by omega))
theorem box_grownN {w w2 : World} {C : Array Value} {T : TypeId} {sb : Nat} (hG : (w.alloc (.cells C T (0, 0))).grownBy w2 (some sb)) (hs : sb < w.heap.size) : w2.heap[w.heap.size]? = some (.cells C T (0, 0)) ∧ w.heap.size < w2.heap.size := by
  have z := hG.size
  simp only [World.size_alloc] at z
  exact ⟨(hG.block _ (by simp) (by simp; omega)).trans (heap_alloc_new w _), by omega⟩
theorem box_kept {w w2 : World} {x : Obj} {sb g : Nat} (hG : w.grownBy w2 (some sb)) (hg : w.heap[g]? = some x) (hlt : g < w.heap.size) (hne : g ≠ sb) : w2.heap[g]? = some x ∧ g < w2.heap.size := ⟨(hG.block g hlt (by simpa using hne)).trans hg, Nat.lt_of_lt_of_le hlt hG.size⟩
theorem grownBy_set4 (w : World) (b i0 i1 i2 i3 : Nat) (v0 v1 v2 v3 : Value) : w.grownBy ((((w.setCell ⟨b, i0, none⟩ v0).setCell ⟨b, i1, none⟩ v1).setCell ⟨b, i2, none⟩ v2).setCell ⟨b, i3, none⟩ v3) (some b) :=
  grownBy_transZ (grownBy_transZ (grownBy_transZ (grownBy_setCellZ w b i0 v0) (grownBy_setCellZ _ b i1 v1)) (grownBy_setCellZ _ b i2 v2)) (grownBy_setCellZ _ b i3 v3)
set_option maxHeartbeats 16000000 in
set_option maxRecDepth 100000 in
theorem market_any (sb : Nat) (w : World) (hs : SrcOk w sb) :
    Calls Try.prog 15 #[.pointer (some ⟨sb, 0, none⟩)] w (MktW w sb) := by
  have hlt := srcOk_lt hs
  go_enter Try.func15, Try.ntmps15
  go_wp2
  obtain ⟨W0, hW0⟩ : ∃ W, W = (w.alloc (.cells #[.slice none 0 0, .slice none 0 0, .slice none 0 0] 29)).alloc (.cells #[.slice none 0 0, .slice none 0 0, .slice none 0 0] 29) := ⟨_, rfl⟩
  have hg0 : w.grownBy W0 (some sb) := by rw [hW0]; exact grownBy_trans (World.grownBy_alloc _ _ _) (World.grownBy_alloc _ _ _)
  have hS0 : SrcOk W0 sb := by rw [hW0]; exact srcOk_alloc (srcOk_alloc hs _) _
  have hX0 : W0.heap[w.heap.size]? = some (.cells #[.slice none 0 0, .slice none 0 0, .slice none 0 0] 29 (0, 0)) := by rw [hW0]; exact (heap_alloc_old _ _ (by simp)).trans (heap_alloc_new w _)
  have hY0 : W0.heap[w.heap.size + 1]? = some (.cells #[.slice none 0 0, .slice none 0 0, .slice none 0 0] 29 (0, 0)) := by rw [hW0]; exact heap_at (by simp)
  have HG0 := Lib.hid hg0
  have HS0 := Lib.hid hS0
  have HX0 := Lib.hid hX0
  have HY0 := Lib.hid hY0
  clear hg0 hS0 hX0 hY0 hs
  go_loopw [4] (fun iv wr => ∃ (k : Int) (R : Reg) (a0 a1 a2 : Option Addr) (n0 c0 n1 c1 n2 c2 : Nat), iv = .int .i64 k ∧ MkAt k R ∧ wr.heap[w.heap.size]? = some (.cells #[.slice none 0 0, .slice none 0 0, .slice none 0 0] 29 (0, 0)) ∧ wr.heap[w.heap.size + 1]? = some (.cells #[.slice a0 n0 c0, .slice a1 n1 c1, .slice a2 n2 c2] 29 (0, 0)) ∧ RgIn (fun b => w.heap.size + 2 ≤ b) wr (.slice a0 n0 c0) (.slice a1 n1 c1) (.slice a2 n2 c2) R ∧ (Value.slice a0 n0 c0 = .slice none 0 0 ∨ 0 < R.secs.length) ∧ SrcOk wr sb ∧ w.grownBy wr (some sb)) (fun iv _ => (4 - intOf iv).toNat)
  case atStart => exact ⟨1, ⟨[], [], []⟩, none, none, none, 0, 0, 0, 0, 0, 0, rfl, .inl ⟨rfl, rfl⟩, by rw [← hW0]; exact HX0.out, by rw [← hW0]; exact HY0.out, rgIn_nil _ _, .inl rfl, by rw [← hW0]; exact HS0.out, by rw [← hW0]; exact HG0.out⟩
  case round =>
    obtain ⟨k, R, a0, a1, a2, n0, c0, n1, c1, n2, c2, rfl, hok, hX, hY, hR, hnz, hSr, hGr⟩ := hrel
    have hkb := hok.bd
    have hzB : w.heap.size + 1 < wr.heap.size := World.block_lt_of_cell? wr ⟨w.heap.size + 1, 0, none⟩ (cell_heap (i := 0) hY rfl)
    have HX := Lib.hid hX
    have HY := Lib.hid hY
    have HR := Lib.hid hR
    have HOK := Lib.hid hok
    have HNZ := Lib.hid hnz
    have HS := Lib.hid hSr
    have HG := Lib.hid hGr
    clear hX hY hR hok hnz hSr hGr
    by_cases hk2 : k ≤ 2
    · go_wp2_with fail
      refine (srcsec_any sb k _ HS.out).mono ?_
      rintro e w2 ⟨un, is, ma, ra, ev, ix, hl, rfl, hS2, hG2⟩
      have HL := Lib.hid hl
      have HS2 := Lib.hid (srcOk_alloc hS2 (.cells #[.int .i64 k, .int .i64 un, .int .i64 is, .int .i64 ma, .int .i64 ra, .int .i64 ev, .bool ix] 41))
      have HG2 := Lib.hid hG2
      have hl2 := srcOk_lt hS2
      clear hl hS2 hG2
      go_wp2_with fail
      refine (pick_lit sb [1, 10, 100] _ _ _ _ HS2.out (by decide) (by decide) rfl rfl (by simp)).mono ?_
      rintro e w3 ⟨u, hu, rfl, hS3, hG3⟩
      have hB3 := box_grownN hG3 hl2
      have z2 := HG2.out.size
      have HU := Lib.hid (show UnRa u ra from ⟨hu, HL.out.hra⟩)
      have HG3 := Lib.hid (grownBy_trans (World.grownBy_alloc w2 _ _) hG3)
      have HGG := Lib.hid (grownBy_trans HG2.out HG3.out)
      have HS3 := Lib.hid hS3
      have hlt3 := hB3.2
      have e0 := heap_setCell_same w3 _ 2 _ _ (.int .i64 0) hB3.1
      have e1 := heap_setCell_same _ _ 1 _ _ (.int .i64 u) e0
      have e2 := heap_setCell_same _ _ 5 _ _ (.int .i64 6) e1
      have e3 := heap_setCell_same _ _ 3 _ _ (.int .i64 1800) e2
      have HE3 := Lib.hid e3
      have q0 := cell_heap (i := 0) hB3.1 rfl
      have q1 := cell_heap (i := 1) hB3.1 rfl
      have q2 := cell_heap (i := 2) hB3.1 rfl
      have q3 := cell_heap (i := 3) hB3.1 rfl
      have q4 := cell_heap (i := 4) hB3.1 rfl
      have q5 := cell_heap (i := 5) hB3.1 rfl
      have q6 := cell_heap (i := 6) hB3.1 rfl
      have qf := frozen_of_row w3 _ 2 _ _ hB3.1
      have qf1 := frozen_of_row w3 _ 1 _ _ hB3.1
      have qf5 := frozen_of_row w3 _ 5 _ _ hB3.1
      have qf3 := frozen_of_row w3 _ 3 _ _ hB3.1
      have hY3 := (HGG.out.block _ hzB (by simp; omega)).trans HY.out
      have HY3 := Lib.hid hY3
      have HX3 := Lib.hid ((HGG.out.block w.heap.size (by omega) (by simp; omega)).trans HX.out)
      have HR3 := Lib.hid (HR.out.grown HGG.out (fun b hb => by omega))
      clear hu hS3 hG3 hB3 e0 e1 e2 e3 hY3
      go_upto_region 7 with fail
      have hg4 := grownBy_set4 w3 w2.heap.size 2 1 5 3 (.int .i64 0) (.int .i64 u) (.int .i64 6) (.int .i64 1800)
      have hE4 := HE3.out
      generalize ((((w3.setCell ⟨w2.heap.size, 2, none⟩ (.int .i64 0)).setCell ⟨w2.heap.size, 1, none⟩ (.int .i64 u)).setCell ⟨w2.heap.size, 5, none⟩ (.int .i64 6)).setCell ⟨w2.heap.size, 3, none⟩ (.int .i64 1800)) = W4 at hg4 hE4 ⊢
      have HE4 := Lib.hid hE4
      have HG4 := Lib.hid hg4
      have hB4 : Below w2.heap.size w3 W4 := below_of_grown hg4 (Nat.le_refl _) (by omega)
      have HB4 := Lib.hid hB4
      have z4 := hB4.size
      have HS4 := Lib.hid (srcOk_below HS3.out hB4 hl2)
      have hY4 := (hB4.block (w.heap.size + 1) (by omega)).trans HY3.out
      have HY4 := Lib.hid hY4
      have HX4 := Lib.hid ((hB4.block w.heap.size (by omega)).trans HX3.out)
      have hs4 := src_fin HGG.out HS3.out (hB4.mono z2) (by omega)
      have HGW := Lib.hid (grownBy_trans HG.out hs4.2)
      have HR4 := Lib.hid (((HR.out.mono (Q := fun b => w.heap.size + 2 ≤ b ∧ b < wr.heap.size) (fun b h hl => ⟨h, hl⟩)).grown HGG.out (fun b hb => by omega)).grown hg4 (fun b hb => by omega) |>.mono (Q := fun b => w.heap.size + 2 ≤ b) (fun b h _ => h.1))
      obtain ⟨hadd, hmk⟩ := HOK.out.add (ix := ix) hk2 HU.out
      have HMK := Lib.hid hmk
      have hK := fadd_any (fun b => w.heap.size + 2 ≤ b) _ _ _ R k u 0 1800 ra 6 ix W4 HR4.out (by have := HOK.out.ok.ls; omega) (by have := HOK.out.ok.hl; omega) (by have := HOK.out.ok.lm; omega) (fun b hb => by omega) HNZ.out
      rw [show raE R ⟨k, u, 0, 1800, ra, 6, ix⟩ = 0 from hadd] at hK
      have HK := Lib.hid hK
      have s0 : W4.cell? ⟨w2.heap.size, 0, none⟩ = some (.int .i64 k) := cell_heap (i := 0) hE4 rfl
      have s1 : W4.cell? ⟨w2.heap.size, 1, none⟩ = some (.int .i64 u) := cell_heap (i := 1) hE4 rfl
      have s2 : W4.cell? ⟨w2.heap.size, 2, none⟩ = some (.int .i64 0) := cell_heap (i := 2) hE4 rfl
      have s3 : W4.cell? ⟨w2.heap.size, 3, none⟩ = some (.int .i64 1800) := cell_heap (i := 3) hE4 rfl
      have s4 : W4.cell? ⟨w2.heap.size, 4, none⟩ = some (.int .i64 ra) := cell_heap (i := 4) hE4 rfl
      have s5 : W4.cell? ⟨w2.heap.size, 5, none⟩ = some (.int .i64 6) := cell_heap (i := 5) hE4 rfl
      have s6 : W4.cell? ⟨w2.heap.size, 6, none⟩ = some (.bool ix) := cell_heap (i := 6) hE4 rfl
      have y0 := cell_heap (i := 0) hY4 rfl
      have y1 := cell_heap (i := 1) hY4 rfl
      have y2 := cell_heap (i := 2) hY4 rfl
      clear hg4 hE4 hB4 hs4 hadd hmk hK hY4 q0 q1 q2 q3 q4 q5 q6 qf qf1 qf5 qf3
      go_wp2_with fail
      refine HK.out.mono ?_
      rintro e w5 hgv
      obtain ⟨b0, m0, d0, b1, m1, d1, b2, m2, d2, rfl, hq5, hb5⟩ := hgv.shape
      clear hgv s0 s1 s2 s3 s4 s5 s6 y0 y1 y2
      have z5 := hb5.size
      have hY5 := (hb5.block (w.heap.size + 1) (by omega)).trans HY4.out
      have HY5 := Lib.hid hY5
      have HX5 := Lib.hid ((hb5.block w.heap.size (by omega)).trans HX4.out)
      have HQ5 := Lib.hid hq5
      have HB5 := Lib.hid hb5
      have y0 := cell_heap (i := 0) hY5 rfl
      have y1 := cell_heap (i := 1) hY5 rfl
      have y2 := cell_heap (i := 2) hY5 rfl
      have yf0 := frozen_of_row w5 _ 0 _ _ hY5
      have yf1 := frozen_of_row w5 _ 1 _ _ hY5
      have yf2 := frozen_of_row w5 _ 2 _ _ hY5
      clear hq5 hb5 hY5
      have hwk : IntKind.i64.wrap (k + 1) = k + 1 := IntWalk.i64_in _ (by omega)
      go_wp2
      go_roundw
      case rel =>
        have e0 := heap_setCell_same w5 _ 0 _ _ (.slice b0 m0 d0) HY5.out
        have e1 := heap_setCell_same _ _ 1 _ _ (.slice b1 m1 d1) e0
        have e2 := heap_setCell_same _ _ 2 _ _ (.slice b2 m2 d2) e1
        have hs2 := src_fin HGW.out HS4.out ((HB5.out.mono (by omega)).trans (below_set3 w5 (show w.heap.size ≤ w.heap.size + 1 by omega) (.slice b0 m0 d0) (.slice b1 m1 d1) (.slice b2 m2 d2))) hlt
        exact ⟨k + 1, _, b0, b1, b2, m0, d0, m1, d1, m2, d2, rfl, HMK.out, ((grownBy_set3 w5 (w.heap.size + 1) (.slice b0 m0 d0) (.slice b1 m1 d1) (.slice b2 m2 d2)).block _ (by omega) (by simp)).trans HX5.out, e2, HQ5.out.set3 (b := w.heap.size + 1) (fun b hb => by omega), .inr (HMK.out.pos (by omega)), hs2.1, hs2.2⟩
      case measure => simp [intOf]; omega
    · have hk3 : k = 3 := by omega
      subst hk3
      have HREG := Lib.hid HOK.out.reg
      clear HOK HNZ
      go_wp2_with fail
      refine (n_any sb 4 _ HS.out (by decide)).mono ?_
      rintro e w4 ⟨kk, hkk, rfl, hS4, hG4⟩
      have hX4 : w4.heap[w.heap.size]? = _ := (hG4.block _ (by omega) (by simp; omega)).trans HX.out
      have hY4 : w4.heap[w.heap.size + 1]? = _ := (hG4.block _ (by omega) (by simp; omega)).trans HY.out
      have HS4 := Lib.hid hS4
      have HX4 := Lib.hid hX4
      have HY4 := Lib.hid hY4
      have HG4 := Lib.hid (grownBy_trans HG.out hG4)
      have HR4 := Lib.hid (HR.out.grown hG4 (fun b hb => by omega))
      clear hS4 hX4 hY4 hG4 HS HX HY HG HR
      go_wp2
      go_loopw [6] (fun kv wr2 => ∃ (j : Int) (R : Reg) (a0 a1 a2 : Option Addr) (n0 c0 n1 c1 n2 c2 : Nat), kv = .int .i64 j ∧ (0 ≤ j ∧ j ≤ 3) ∧ MkReg R (3 - j) ∧ wr2.heap[w.heap.size]? = some (.cells #[.slice none 0 0, .slice none 0 0, .slice none 0 0] 29 (0, 0)) ∧ wr2.heap[w.heap.size + 1]? = some (.cells #[.slice a0 n0 c0, .slice a1 n1 c1, .slice a2 n2 c2] 29 (0, 0)) ∧ RgIn (fun b => w.heap.size + 2 ≤ b) wr2 (.slice a0 n0 c0) (.slice a1 n1 c1) (.slice a2 n2 c2) R ∧ SrcOk wr2 sb ∧ w.grownBy wr2 (some sb)) (fun kv _ => (intOf kv).toNat)
      case atStart => exact ⟨kk, R, a0, a1, a2, n0, c0, n1, c1, n2, c2, rfl, by omega, HREG.out.more (by omega), HX4.out, HY4.out, HR4.out, HS4.out, HG4.out⟩
      case round =>
        clear HREG HR4 HX4 HY4 HG4 HS4
        obtain ⟨j, R, a0, a1, a2, n0, c0, n1, c1, n2, c2, rfl, hj, hM, hX, hY, hR, hSr, hGr⟩ := hrel
        have hzB : w.heap.size + 1 < wr.heap.size := World.block_lt_of_cell? wr ⟨w.heap.size + 1, 0, none⟩ (cell_heap (i := 0) hY rfl)
        have y0 := cell_heap (i := 0) hY rfl
        have y1 := cell_heap (i := 1) hY rfl
        have y2 := cell_heap (i := 2) hY rfl
        have HX := Lib.hid hX
        have HY := Lib.hid hY
        have HR := Lib.hid hR
        have HS := Lib.hid hSr
        have HG := Lib.hid hGr
        have HM := Lib.hid hM
        clear hX hY hR hSr hGr hM
        by_cases hj0 : 0 < j
        · have yk0 : (wr.alloc (.cells #[.slice none 0 0, .slice none 0 0, .slice none 0 0] 29 (0, 0))).cell? ⟨w.heap.size + 1, 0, none⟩ = some (.slice a0 n0 c0) := keepA (w := wr) y0
          have yk1 : (wr.alloc (.cells #[.slice none 0 0, .slice none 0 0, .slice none 0 0] 29 (0, 0))).cell? ⟨w.heap.size + 1, 1, none⟩ = some (.slice a1 n1 c1) := keepA (w := wr) y1
          have yk2 : (wr.alloc (.cells #[.slice none 0 0, .slice none 0 0, .slice none 0 0] 29 (0, 0))).cell? ⟨w.heap.size + 1, 2, none⟩ = some (.slice a2 n2 c2) := keepA (w := wr) y2
          have HK := Lib.hid (show wr.grownBy wr (some sb) from ⟨rfl, rfl, rfl, Nat.le_refl _, fun _ _ _ => rfl⟩)
          go_upto_region 11 with fail
          go_cut [7, 8] (fun s7 s8 wx => ∃ (g : Nat) (s t q : Int) (b0 b1 b2 : Option Addr) (m0 d0 m1 d1 m2 d2 : Nat), s7 = .pointer (some ⟨g, 0, none⟩) ∧ s8 = .int .i64 (rmE R ⟨0, 0, 1, s, 0, t, 1000 * q⟩) ∧ (1 ≤ q ∧ q ≤ 9) ∧ AddAt w sb wr g (rmR R ⟨0, 0, 1, s, 0, t, 1000 * q⟩) b0 b1 b2 m0 d0 m1 d1 m2 d2 wx)
          case first =>
            go_region_with (first | (go_at_call 16; refine (range_any sb _ _ _ ?_ (by decide) (by decide) (by decide)).mono ?_; (· first | exact HS.out | exact srcOk_alloc HS.out _ | exact srcOk_drewN HS.out 1 | exact srcOk_drewN (srcOk_alloc HS.out _) 1); rintro e wn ⟨v, hv, rfl, hS', hG'⟩; have hwv : IntKind.i64.wrap (1000 * v) = 1000 * v := IntWalk.i64_in _ (by omega); have hK' : wr.grownBy wn (some sb) := (by first | exact grownBy_trans HK.out hG' | exact grownBy_trans HK.out (grownBy_undrew hG') | exact grownBy_trans HK.out (grownBy_trans (World.grownBy_alloc _ _ _) hG') | exact grownBy_trans HK.out (grownBy_trans (World.grownBy_alloc _ _ _) (grownBy_undrew hG'))); (first | (have hbq := box_kept (grownBy_undrew hG') HBX.out hbl (by omega); have hbl := hbq.2; have HBX := Lib.hid hbq.1; clear hbq) | (have hbq := box_kept hG' HBX.out hbl (by omega); have hbl := hbq.2; have HBX := Lib.hid hbq.1; clear hbq) | (have hbq := box_grown hG' (srcOk_lt HS.out); have hgg : wr.heap.size ≤ _ := HK.out.size; have hbl := hbq.2; have HBX := Lib.hid hbq.1; clear hbq) | (have hbq := box_grownN hG' (srcOk_lt HS.out); have hgg : wr.heap.size ≤ _ := HK.out.size; have hbl := hbq.2; have HBX := Lib.hid hbq.1; clear hbq) | skip); have HS := Lib.hid hS'; have HK := Lib.hid hK'; have hy2 := (hK'.block _ hzB (by simp; omega)).trans HY.out; have c0' := cell_heap (i := 0) hy2 rfl; have c1' := cell_heap (i := 1) hy2 rfl; have c2' := cell_heap (i := 2) hy2 rfl; have ck0 : (wn.alloc (.cells #[.slice none 0 0, .slice none 0 0, .slice none 0 0] 29 (0, 0))).cell? ⟨w.heap.size + 1, 0, none⟩ = some (.slice a0 n0 c0) := keepA (w := wn) c0'; have ck1 : (wn.alloc (.cells #[.slice none 0 0, .slice none 0 0, .slice none 0 0] 29 (0, 0))).cell? ⟨w.heap.size + 1, 1, none⟩ = some (.slice a1 n1 c1) := keepA (w := wn) c1'; have ck2 : (wn.alloc (.cells #[.slice none 0 0, .slice none 0 0, .slice none 0 0] 29 (0, 0))).cell? ⟨w.heap.size + 1, 2, none⟩ = some (.slice a2 n2 c2) := keepA (w := wn) c2'; clear hS' hG' hK' hy2) | (go_at_call 39; refine (iss_at (w := w) (w1 := wr) HR.out (by first | exact HK.out | exact grownBy_trans HK.out (World.grownBy_alloc _ _ _)) hlt HM.out.ok).mono ?_; rintro e w3 hg; obtain ⟨b0, m0, d0, b1, m1, d1, b2, m2, d2, rfl, hq3, hb3⟩ := hg.shape; have HQ3 := Lib.hid hq3; have HB3 := Lib.hid hb3; (try (have hbx3 := (hb3.block _ hbl).trans HBX.out; have bx0 := cell_heap (i := 0) hbx3 rfl; have bx1 := cell_heap (i := 1) hbx3 rfl; have bx2 := cell_heap (i := 2) hbx3 rfl; have bf0 := frozen_of_row w3 _ 0 _ _ hbx3; have bf1 := frozen_of_row w3 _ 1 _ _ hbx3; have bf2 := frozen_of_row w3 _ 2 _ _ hbx3; clear hbx3)); (try (have hbx3 := box_below hb3; have bx0 := cell_heap (i := 0) hbx3 rfl; have bx1 := cell_heap (i := 1) hbx3 rfl; have bx2 := cell_heap (i := 2) hbx3 rfl; have bf0 := frozen_of_row w3 _ 0 _ _ hbx3; have bf1 := frozen_of_row w3 _ 1 _ _ hbx3; have bf2 := frozen_of_row w3 _ 2 _ _ hbx3; clear hbx3)); clear hg hq3 hb3))
            all_goals (go_wp2_with fail; go_meet)
            all_goals (refine ⟨_, _, _, _, b0, b1, b2, m0, d0, m1, d1, m2, d2, rfl, rfl, by assumption, ?_⟩; first | exact added_new hlt (by omega) HK.out HS.out HB3.out HQ3.out | exact added_set hlt (by omega) HK.out HS.out HB3.out HQ3.out (by omega) hbl HBX.out | exact added_set hlt (by omega) (grownBy_trans HK.out (World.grownBy_alloc _ _ _)) (srcOk_alloc HS.out _) HB3.out HQ3.out HK.out.size (by simp) (heap_alloc_new _ _))
          case rest =>
            obtain ⟨g, s, t, q, b0, b1, b2, m0, d0, m1, d1, m2, d2, rfl, rfl, hq, hA⟩ := hcut
            obtain ⟨E, hE⟩ : ∃ E, rmE R ⟨0, 0, 1, s, 0, t, 1000 * q⟩ = E := ⟨_, rfl⟩
            rw [hE]
            have HE := Lib.hid hE
            have HA := Lib.hid hA
            have gx0 := hA.g0
            have gx1 := hA.g1
            have gx2 := hA.g2
            have hXx := (hA.old w.heap.size (by omega) (by omega)).trans HX.out
            have hYx := (hA.old (w.heap.size + 1) (by omega) (by omega)).trans HY.out
            have HXX := Lib.hid hXx
            have HYX := Lib.hid hYx
            clear y0 y1 y2 yk0 yk1 yk2
            have y0 := cell_heap (i := 0) hYx rfl
            have y1 := cell_heap (i := 1) hYx rfl
            have y2 := cell_heap (i := 2) hYx rfl
            have yf0 := frozen_of_row wc _ 0 _ _ hYx
            have yf1 := frozen_of_row wc _ 1 _ _ hYx
            have yf2 := frozen_of_row wc _ 2 _ _ hYx
            clear hE hA hXx hYx
            have hwj : IntKind.i64.wrap (j - 1) = j - 1 := IntWalk.i64_in _ (by omega)
            by_cases h0 : E = 0
            · subst h0
              have hiss := Lib.hid (HM.out.issue hq HE.out)
              go_wp2
              go_roundw
              case rel =>
                have e0 := heap_setCell_same wc _ 0 _ _ (.slice b0 m0 d0) HYX.out
                have e1 := heap_setCell_same _ _ 1 _ _ (.slice b1 m1 d1) e0
                have e2 := heap_setCell_same _ _ 2 _ _ (.slice b2 m2 d2) e1
                have hs2 := src_fin (grownBy_trans HG.out HA.out.gr) HA.out.src (below_set3 wc (show w.heap.size ≤ w.heap.size + 1 by omega) (.slice b0 m0 d0) (.slice b1 m1 d1) (.slice b2 m2 d2)) hlt
                exact ⟨j - 1, _, b0, b1, b2, m0, d0, m1, d1, m2, d2, rfl, by omega, hiss.out.more (by omega), ((grownBy_set3 wc (w.heap.size + 1) (.slice b0 m0 d0) (.slice b1 m1 d1) (.slice b2 m2 d2)).block _ (World.block_lt_of_cell? wc ⟨w.heap.size, 0, none⟩ (cell_heap (i := 0) HXX.out rfl)) (by simp)).trans HXX.out, e2, HA.out.rg.set3 (b := w.heap.size + 1) (fun b hb => by omega), hs2.1, hs2.2⟩
              case measure => simp [intOf]; omega
            · have g1 : (E == 0) = false := by simpa using h0
              go_wp2
              go_roundw
              case rel => exact ⟨j - 1, R, a0, a1, a2, n0, c0, n1, c1, n2, c2, rfl, by omega, HM.out.more (by omega), HXX.out, HYX.out, HR.out.grown HA.out.gr (fun b hb => by omega), HA.out.src, grownBy_trans HG.out HA.out.gr⟩
              case measure => simp [intOf]; omega
        · have x0 := cell_heap (i := 0) HX.out rfl
          have x1 := cell_heap (i := 1) HX.out rfl
          have x2 := cell_heap (i := 2) HX.out rfl
          have xf0 := frozen_of_row wr _ 0 _ _ HX.out
          have xf1 := frozen_of_row wr _ 1 _ _ HX.out
          have xf2 := frozen_of_row wr _ 2 _ _ HX.out
          have hs2 := src_fin HG.out HS.out (below_set3 wr (Nat.le_refl w.heap.size) (.slice a0 n0 c0) (.slice a1 n1 c1) (.slice a2 n2 c2)) hlt
          have HS2 := Lib.hid hs2
          clear hs2
          go_wp2
          refine bodyPost_ret (v := .agg #[.slice a0 n0 c0, .slice a1 n1 c1, .slice a2 n2 c2]) (by simp [results, Try.results15, go_sem, x0, x1, x2]) rfl ⟨_, _, _, R, rfl, HM.out.more (by omega), HR.out.set3 (b := w.heap.size) (fun b hb => by omega), HS2.out.1, HS2.out.2⟩
end Go.Proofs.Ytmhglabcnimegaa
