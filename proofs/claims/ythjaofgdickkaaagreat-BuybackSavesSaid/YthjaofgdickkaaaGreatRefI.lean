/- the reference's register: change, whole. Printed by wip/gen/refi.py. -/
import Derived.Test.YthjaofgdickkaaaGreatRefG
import Derived.Test.YthjaofgdickkaaaGreatRefH
namespace Go.Proofs.YthjaofgdickkaaaGreat
open Go.RowKit
set_option linter.unusedVariables false
set_option linter.unusedSimpArgs false
/-- the register that change hands back -/
theorem fchange_fin {P : Nat → Prop} {R : Reg} {H2 : List Hold} {mm : Mv} {w w2 W5 W7 : World} {b1 : Nat} {a0 s2 s7 : Option Addr} {n0 c0 t2 t7 n7 : Nat} (hP : ∀ b, w.heap.size ≤ b → P b) (hn : n7 = R.ms.length + 1)
    (h2 : Below w.heap.size w w2) (z2 : w.heap.size + 3 ≤ w2.heap.size) (h5 : W5 = w2.setCell ⟨w.heap.size, 1, none⟩ (.slice s2 H2.length t2)) (h7 : Below W5.drew.heap.size W5.drew W7) (hb1 : w.heap.size + 3 ≤ b1)
    (hS : Sl 7 encSec (fun b => P b ∧ b < w.heap.size) w (.slice a0 n0 c0) R.secs)
    (o2 : w2.ownsRow b1 171 3 (.slice s2 H2.length t2) H2.length (flatE encHold H2))
    (o7 : W7.ownsRow W5.drew.heap.size 174 7 (.slice s7 n7 t7) n7 (flatE encMv (R.ms ++ [mm]))) :
    GaveR P ⟨R.secs, H2, R.ms ++ [mm]⟩ 0 w (.returned (.tuple #[.agg #[.slice a0 n0 c0, .slice s2 H2.length t2, .slice s7 n7 t7], .int .i64 0]))
      ((((W7.setCell ⟨w.heap.size, 2, none⟩ (.slice s7 n7 t7)).setCell ⟨w.heap.size + 1 + 1, 0, none⟩ (.slice a0 n0 c0)).setCell ⟨w.heap.size + 1 + 1, 1, none⟩ (.slice s2 H2.length t2)).setCell ⟨w.heap.size + 1 + 1, 2, none⟩ (.slice s7 n7 t7)) := by
  have q5 : W5.ownsRow b1 171 3 (.slice s2 H2.length t2) H2.length (flatE encHold H2) := by rw [h5]; exact own_kept o2 (grownBy_setCellZ ..) (by omega)
  have q5' : W5.drew.ownsRow b1 171 3 (.slice s2 H2.length t2) H2.length (flatE encHold H2) := q5
  have q7 := ownsRow_belowZ q5' h7
  have b5 : Below w.heap.size w W5 := by rw [h5]; exact bset h2 (Nat.le_refl _) _
  have z5 : W5.heap.size = w2.heap.size := by rw [h5]; simp [World.setCell]
  have z5' : W5.drew.heap.size = w2.heap.size := z5
  have b7 : Below w.heap.size w W7 := (bdr b5).trans (h7.mono (by omega))
  have z7 := b7.size
  have g1 := grownBy_setCellZ W7 w.heap.size 2 (.slice s7 n7 t7)
  have g2 := grownBy_set3 (W7.setCell ⟨w.heap.size, 2, none⟩ (.slice s7 n7 t7)) (w.heap.size + 1 + 1) (.slice a0 n0 c0) (.slice s2 H2.length t2) (.slice s7 n7 t7)
  have r2 := own_kept (own_kept q7 g1 (by omega)) g2 (by omega)
  have r7 := own_kept (own_kept o7 g1 (by omega)) g2 (by omega)
  have rS := ((hS.below b7).grown g1 (fun b hb => by omega)).grown g2 (fun b hb => by omega)
  refine ⟨_, _, _, rfl, ⟨rS.mono (fun b hb _ => hb.1), Sl.own encHold_len r2 rfl (fun b hb => hP b (by omega)), Sl.own encMv_len (L := R.ms ++ [mm]) r7 (by simp [hn]) (fun b hb => hP b (by omega))⟩, bset3 (bset b7 (Nat.le_refl _) _) (by omega) _ _ _⟩
set_option maxHeartbeats 4000000 in
set_option maxRecDepth 100000 in
theorem fchange_bad (P : Nat → Prop) (vs vh vm : Value) (R : Reg) (mn md mk ms mf mt ma : Int) (w : World) (hr : RgIn P w vs vh vm R) (hS : R.secs.length ≤ 1000000) (hH : R.hs.length ≤ 1000000) (hM : R.ms.length ≤ 1000000) (hP : ∀ b, w.heap.size ≤ b → P b) (hx : chkE R ≠ 0) :
    Calls Tryz.prog 248 #[.agg #[vs, vh, vm], .agg #[.int .i64 mn, .int .i64 md, .int .i64 mk, .int .i64 ms, .int .i64 mf, .int .i64 mt, .int .i64 ma]] w (GaveR P (rmR R ⟨mn, md, mk, ms, mf, mt, ma⟩) (rmE R ⟨mn, md, mk, ms, mf, mt, ma⟩) w) := by
  obtain ⟨a0, n0, c0, rfl, -, -, -⟩ := hr.S.shape
  obtain ⟨a1, n1, c1, rfl, -, -, -⟩ := hr.H.shape
  obtain ⟨a2, n2, c2, rfl, hn2, -, -⟩ := hr.M.shape
  have HC := Lib.hid (fun W hW => fcheck_any P _ _ _ R W (hr.below (w' := W) hW) hS hH hM)
  have HR := Lib.hid hr
  have HN2 := Lib.hid hn2
  obtain ⟨E0, hE0⟩ : ∃ E, chkE R = E := ⟨_, rfl⟩
  obtain ⟨E, hE⟩ : ∃ E, rmE R ⟨mn, md, mk, ms, mf, mt, ma⟩ = E := ⟨_, rfl⟩
  obtain ⟨Q, hQ⟩ : ∃ Q, rmR R ⟨mn, md, mk, ms, mf, mt, ma⟩ = Q := ⟨_, rfl⟩
  have hE2 := hE
  have hQ2 := hQ
  unfold rmE at hE2
  unfold rmR at hQ2
  rw [hE0] at HC hE2
  rw [hE] at hQ2
  rw [hE, hQ]
  have HE := Lib.hid hE2
  have HQ := Lib.hid hQ2
  have HE0 := Lib.hid hE0
  clear hr hE hQ hE2 hQ2 hE0 hn2
  have h0 : E0 ≠ 0 := by rw [← HE0.out]; exact hx
  have g1 : (E0 != 0) = true := by simpa using h0
  have g2 : (E0 == 0) = false := by simpa using h0
  have hf1 : E = E0 := by rw [← HE.out, if_neg h0]
  have hf2 : Q = ⟨[], [], []⟩ := by rw [← HQ.out, if_neg (by rw [hf1]; exact h0)]
  have HF1 := Lib.hid hf1
  have HF2 := Lib.hid hf2
  clear hf1 hf2
  go_enter Tryz.func248, Tryz.ntmps248
  go_wp2_with fail
  refine (HC.out _ (bal (bal (bal brefl _) _) _)).mono ?_
  rintro e w1 ⟨rfl, hb1⟩
  obtain ⟨hc, hf⟩ := bcell hb1
  have hz : w.heap.size + 1 + 1 < w1.heap.size := by have := hb1.size; simp at this; omega
  go_wp2
  refine bodyPost_ret (v := .tuple #[.agg #[.slice none 0 0, .slice none 0 0, .slice none 0 0], .int .i64 E0]) (by simp [results, Tryz.results248, go_sem, hc, hz]) rfl (gave_nil HF2.out HF1.out ?_)
  exact bset3 (bup (bal (bal (bal brefl _) _) _) hb1) (by omega) _ _ _
set_option maxHeartbeats 4000000 in
set_option maxRecDepth 100000 in
theorem fchange_full (P : Nat → Prop) (vs vh vm : Value) (R : Reg) (mn md mk ms mf mt ma : Int) (w : World) (hr : RgIn P w vs vh vm R) (hS : R.secs.length ≤ 1000000) (hH : R.hs.length ≤ 1000000) (hM : R.ms.length ≤ 1000000) (hP : ∀ b, w.heap.size ≤ b → P b) (hx : chkE R = 0) (hy : R.ms.length = 400) :
    Calls Tryz.prog 248 #[.agg #[vs, vh, vm], .agg #[.int .i64 mn, .int .i64 md, .int .i64 mk, .int .i64 ms, .int .i64 mf, .int .i64 mt, .int .i64 ma]] w (GaveR P (rmR R ⟨mn, md, mk, ms, mf, mt, ma⟩) (rmE R ⟨mn, md, mk, ms, mf, mt, ma⟩) w) := by
  obtain ⟨a0, n0, c0, rfl, -, -, -⟩ := hr.S.shape
  obtain ⟨a1, n1, c1, rfl, -, -, -⟩ := hr.H.shape
  obtain ⟨a2, n2, c2, rfl, hn2, -, -⟩ := hr.M.shape
  have HC := Lib.hid (fun W hW => fcheck_any P _ _ _ R W (hr.below (w' := W) hW) hS hH hM)
  have HR := Lib.hid hr
  have HN2 := Lib.hid hn2
  obtain ⟨E0, hE0⟩ : ∃ E, chkE R = E := ⟨_, rfl⟩
  obtain ⟨E, hE⟩ : ∃ E, rmE R ⟨mn, md, mk, ms, mf, mt, ma⟩ = E := ⟨_, rfl⟩
  obtain ⟨Q, hQ⟩ : ∃ Q, rmR R ⟨mn, md, mk, ms, mf, mt, ma⟩ = Q := ⟨_, rfl⟩
  have hE2 := hE
  have hQ2 := hQ
  unfold rmE at hE2
  unfold rmR at hQ2
  rw [hE0] at HC hE2
  rw [hE] at hQ2
  rw [hE, hQ]
  have HE := Lib.hid hE2
  have HQ := Lib.hid hQ2
  have HE0 := Lib.hid hE0
  clear hr hE hQ hE2 hQ2 hE0 hn2
  have h0 : E0 = 0 := by rw [← HE0.out]; exact hx
  subst h0
  have h4 : n2 = 400 := by rw [← HN2.out]; exact hy
  clear hx hy
  have h4' : ((n2 : Int) == 400) = true := by simp; omega
  have H4 := Lib.hid h4
  clear h4
  have hf1 : E = 3 := by rw [← HE.out, if_pos rfl, if_pos (by rw [HN2.out]; exact H4.out)]
  have hf2 : Q = ⟨[], [], []⟩ := by rw [← HQ.out, if_neg (by rw [hf1]; omega)]
  have HF1 := Lib.hid hf1
  have HF2 := Lib.hid hf2
  clear hf1 hf2
  go_enter Tryz.func248, Tryz.ntmps248
  go_wp2_with fail
  refine (HC.out _ (bal (bal (bal brefl _) _) _)).mono ?_
  rintro e w1 ⟨rfl, hb1⟩
  obtain ⟨hc, hf⟩ := bcell hb1
  have hz : w.heap.size + 1 + 1 < w1.heap.size := by have := hb1.size; simp at this; omega
  go_wp2
  refine bodyPost_ret (v := .tuple #[.agg #[.slice none 0 0, .slice none 0 0, .slice none 0 0], .int .i64 3]) (by simp [results, Tryz.results248, go_sem, hc, hz]) rfl (gave_nil HF2.out HF1.out ?_)
  exact bset3 (bup (bal (bal (bal brefl _) _) _) hb1) (by omega) _ _ _
set_option maxHeartbeats 4000000 in
set_option maxRecDepth 100000 in
theorem fchange_go (P : Nat → Prop) (vs vh vm : Value) (R : Reg) (mn md mk ms mf mt ma : Int) (w : World) (hr : RgIn P w vs vh vm R) (hS : R.secs.length ≤ 1000000) (hH : R.hs.length ≤ 1000000) (hM : R.ms.length ≤ 1000000) (hP : ∀ b, w.heap.size ≤ b → P b) (hx : chkE R = 0) (hy : R.ms.length ≠ 400) (hko : kindOk ⟨mn, md, mk, ms, mf, mt, ma⟩) :
    Calls Tryz.prog 248 #[.agg #[vs, vh, vm], .agg #[.int .i64 mn, .int .i64 md, .int .i64 mk, .int .i64 ms, .int .i64 mf, .int .i64 mt, .int .i64 ma]] w (GaveR P (rmR R ⟨mn, md, mk, ms, mf, mt, ma⟩) (rmE R ⟨mn, md, mk, ms, mf, mt, ma⟩) w) := by
  obtain ⟨a0, n0, c0, rfl, -, -, -⟩ := hr.S.shape
  obtain ⟨a1, n1, c1, rfl, -, -, -⟩ := hr.H.shape
  obtain ⟨a2, n2, c2, rfl, hn2, -, -⟩ := hr.M.shape
  have HC := Lib.hid (fun W hW => fcheck_any P _ _ _ R W (hr.below (w' := W) hW) hS hH hM)
  have HR := Lib.hid hr
  have HN2 := Lib.hid hn2
  obtain ⟨E0, hE0⟩ : ∃ E, chkE R = E := ⟨_, rfl⟩
  obtain ⟨E, hE⟩ : ∃ E, rmE R ⟨mn, md, mk, ms, mf, mt, ma⟩ = E := ⟨_, rfl⟩
  obtain ⟨Q, hQ⟩ : ∃ Q, rmR R ⟨mn, md, mk, ms, mf, mt, ma⟩ = Q := ⟨_, rfl⟩
  have hE2 := hE
  have hQ2 := hQ
  unfold rmE at hE2
  unfold rmR at hQ2
  rw [hE0] at HC hE2
  rw [hE] at hQ2
  rw [hE, hQ]
  have HE := Lib.hid hE2
  have HQ := Lib.hid hQ2
  have HE0 := Lib.hid hE0
  clear hr hE hQ hE2 hQ2 hE0 hn2
  have h0 : E0 = 0 := by rw [← HE0.out]; exact hx
  subst h0
  have h4 : ¬ n2 = 400 := by rw [← HN2.out]; exact hy
  clear hx hy
  have hok := chkE_iff.1 HE0.out
  have h4' : ((n2 : Int) == 400) = false := by simp; omega
  have hnn : R.ms.length = n2 := HN2.out
  have hnum : numbered R ⟨mn, md, mk, ms, mf, mt, ma⟩ = ⟨(n2 : Int) + 1, md, mk, ms, mf, mt, ma⟩ := by unfold numbered; rw [hnn]
  have hE3 : mvE R.secs R.hs (rgDay R) ⟨(n2 : Int) + 1, md, mk, ms, mf, mt, ma⟩ = E := by rw [← HE.out, if_pos rfl, if_neg (by rw [hnn]; exact h4), hnum]
  have hQ3 : (if E = 0 then ⟨R.secs, mvH R.hs ⟨(n2 : Int) + 1, md, mk, ms, mf, mt, ma⟩, R.ms ++ [⟨(n2 : Int) + 1, md, mk, ms, mf, mt, ma⟩]⟩ else ⟨[], [], []⟩) = Q := by rw [← HQ.out, hnum]
  have hn400 : n2 ≤ 400 := by have := hok.lm; omega
  obtain ⟨D, hD⟩ : ∃ D, rgDay R = D := ⟨_, rfl⟩
  have hday := hok.day
  rw [hD] at hday
  have hMv := fun (P' : Nat → Prop) (W : World) (h1 : RgIn P' W (.slice a0 n0 c0) (.slice a1 n1 c1) (.slice a2 n2 c2) R) => fmove_any P' _ _ _ _ R R.hs (rgDay R) ((n2 : Int) + 1) md mk ms mf mt ma W h1 h1.H hS (by have := hok.hl; omega) hok.hok hok.sec hko
  rw [hD] at hMv
  rw [hD] at hE3
  rw [hE3] at hMv
  obtain ⟨H2, hH2⟩ : ∃ H2, mvH R.hs ⟨(n2 : Int) + 1, md, mk, ms, mf, mt, ma⟩ = H2 := ⟨_, rfl⟩
  rw [hH2] at hMv hQ3
  have HMV := Lib.hid hMv
  have HQ3 := Lib.hid hQ3
  have HOK := Lib.hid hok
  have HDAY := Lib.hid hday
  clear hok hnn hnum hE3 hQ3 hMv hH2 hD hko hday
  go_enter Tryz.func248, Tryz.ntmps248
  go_wp2_with fail
  refine (HC.out _ (bal (bal (bal brefl _) _) _)).mono ?_
  rintro e w1 ⟨rfl, hb1⟩
  have HB1 := Lib.hid (bup (bal (bal (bal brefl _) _) _) hb1)
  have zz := hb1.size
  simp only [World.size_alloc] at zz
  have r0 : w1.cell? ⟨w.heap.size, 0, none⟩ = some (.slice a0 n0 c0) := keepB hb1 (keepA (keepA ((World.cell?_alloc_at _ _ _ _ rfl).trans rfl)))
  have r1 : w1.cell? ⟨w.heap.size, 1, none⟩ = some (.slice a1 n1 c1) := keepB hb1 (keepA (keepA ((World.cell?_alloc_at _ _ _ _ rfl).trans rfl)))
  have r2 : w1.cell? ⟨w.heap.size, 2, none⟩ = some (.slice a2 n2 c2) := keepB hb1 (keepA (keepA ((World.cell?_alloc_at _ _ _ _ rfl).trans rfl)))
  have HBM := Lib.hid (show w1.heap[w.heap.size + 1]? = some (.cells #[.int .i64 mn, .int .i64 md, .int .i64 mk, .int .i64 ms, .int .i64 mf, .int .i64 mt, .int .i64 ma] 174 (0, 0)) from (hb1.block _ (by simp)).trans ((heap_alloc_old _ _ (by simp)).trans (heap_at (by simp))))
  have HBR := Lib.hid (show w1.heap[w.heap.size]? = some (.cells #[.slice a0 n0 c0, .slice a1 n1 c1, .slice a2 n2 c2] 31 (0, 0)) from (hb1.block _ (by simp; omega)).trans ((heap_alloc_old _ _ (by simp; omega)).trans ((heap_alloc_old _ _ (by simp)).trans (heap_alloc_new w _))))
  have HBX := Lib.hid (show w1.heap[w.heap.size + 1 + 1]? = some (.cells #[.slice none 0 0, .slice none 0 0, .slice none 0 0] 31 (0, 0)) from (hb1.block _ (by simp)).trans (heap_at (by simp)))
  have HR1 := Lib.hid ((HR.out.mono (Q := fun b => P b ∧ b < w.heap.size) (fun b h hl => ⟨h, hl⟩)).below HB1.out)
  clear hb1
  have m0 := cell_heap (i := 0) HBM.out rfl
  have m1 := cell_heap (i := 1) HBM.out rfl
  have m2 := cell_heap (i := 2) HBM.out rfl
  have m3 := cell_heap (i := 3) HBM.out rfl
  have m4 := cell_heap (i := 4) HBM.out rfl
  have m5 := cell_heap (i := 5) HBM.out rfl
  have m6 := cell_heap (i := 6) HBM.out rfl
  have mf0 : w1.frozen? ⟨w.heap.size + 1, 0, none⟩ = false := frozen_of_row w1 _ _ _ _ HBM.out
  obtain ⟨W, hW⟩ : ∃ W, W = w1.setCell ⟨w.heap.size + 1, 0, none⟩ (.int .i64 ((n2 : Int) + 1)) := ⟨_, rfl⟩
  have HRW := Lib.hid (show RgIn (fun b => P b ∧ b < w.heap.size) W (.slice a0 n0 c0) (.slice a1 n1 c1) (.slice a2 n2 c2) R by rw [hW]; exact HR1.out.grown (grownBy_setCellZ ..) (fun b hb => by omega))
  have hwn : IntKind.i64.wrap ((n2 : Int) + 1) = (n2 : Int) + 1 := IntWalk.i64_in _ (by omega)
  have HWW := Lib.hid hW
  clear hW
  obtain ⟨b0, hb0⟩ : ∃ b, decide ((n2 : Int) > 0) = b := ⟨_, rfl⟩
  have hgo : ∀ W2 : World, ∀ e2 : Ending, MovedL E H2 W e2 W2 → True := fun _ _ _ => trivial
  have hl0 : n2 = 0 → D = 0 := fun h => by
    have e : R.ms = [] := List.eq_nil_of_length_eq_zero (by rw [HN2.out, h])
    rw [HDAY.out, e]
    rfl
  have HL0 := Lib.hid hl0
  clear hl0 hgo
  rcases Nat.eq_zero_or_pos n2 with h20 | h20
  · obtain rfl : D = 0 := HL0.out h20
    have hgt : decide (0 < n2) = false := decide_eq_false (by omega)
    clear h20 HL0
    go_wp2_with fail
    rw [← HWW.out]
    refine (HMV.out _ W HRW.out).mono ?_
    rintro e w2 ⟨v', rfl, hnil, hown, hb2⟩
    have zW : W.heap.size = w1.heap.size := by rw [HWW.out]; simp [World.setCell]
    have z2 := hb2.size
    have hrW : W.heap[w.heap.size]? = some (.cells #[.slice a0 n0 c0, .slice a1 n1 c1, .slice a2 n2 c2] 31 (0, 0)) := by rw [HWW.out]; exact (Below.heap_setCell _ _ _ _ (by simp only; omega)).trans HBR.out
    have hxW : W.heap[w.heap.size + 1 + 1]? = some (.cells #[.slice none 0 0, .slice none 0 0, .slice none 0 0] 31 (0, 0)) := by rw [HWW.out]; exact (Below.heap_setCell _ _ _ _ (by simp only; omega)).trans HBX.out
    have hmW : W.heap[w.heap.size + 1]? = some (.cells #[.int .i64 ((n2 : Int) + 1), .int .i64 md, .int .i64 mk, .int .i64 ms, .int .i64 mf, .int .i64 mt, .int .i64 ma] 174 (0, 0)) := by rw [HWW.out]; exact heap_setCell_same w1 _ 0 _ _ _ HBM.out
    have hBW : Below w.heap.size w W := by rw [HWW.out]; exact bset HB1.out (by simp only; omega) _
    have h2r := (hb2.block _ (by omega)).trans hrW
    have h2x := (hb2.block _ (by omega)).trans hxW
    have h2m := (hb2.block _ (by omega)).trans hmW
    have HB2 := Lib.hid (bup hBW hb2)
    have HM2 := Lib.hid (HRW.out.M.below hb2)
    clear m0 m1 m2 m3 m4 m5 m6 mf0 r0 r1 r2 hrW hxW hmW hBW hb2
    by_cases hE : E = 0
    rotate_left
    · have g1 : (E != 0) = true := by simpa using hE
      have g2 : (E == 0) = false := by simpa using hE
      have hf2 := Lib.hid (show Q = ⟨[], [], []⟩ by rw [← HQ3.out, if_neg hE])
      obtain rfl := hnil hE
      have x0 := cell_heap (i := 0) h2x rfl
      have x1 := cell_heap (i := 1) h2x rfl
      have x2 := cell_heap (i := 2) h2x rfl
      have xf0 : w2.frozen? ⟨w.heap.size + 1 + 1, 0, none⟩ = false := frozen_of_row w2 _ _ _ _ h2x
      have xf1 : w2.frozen? ⟨w.heap.size + 1 + 1, 1, none⟩ = false := frozen_of_row w2 _ _ _ _ h2x
      have xf2 : w2.frozen? ⟨w.heap.size + 1 + 1, 2, none⟩ = false := frozen_of_row w2 _ _ _ _ h2x
      clear h2r h2x h2m hnil hown
      go_wp2
      refine bodyPost_ret (v := .tuple #[.agg #[.slice none 0 0, .slice none 0 0, .slice none 0 0], .int .i64 E]) (by simp [results, Tryz.results248, go_sem, x0, x1, x2]) rfl (gave_nil hf2.out rfl ?_)
      exact bset3 HB2.out (by omega) _ _ _
    · subst hE
      have ho := hown rfl
      obtain ⟨lb, lc, rfl⟩ := own_slice0 ho
      have HO := Lib.hid ho
      clear hnil hown ho
      obtain ⟨W5, hW5⟩ : ∃ W, W = w2.setCell ⟨w.heap.size, 1, none⟩ (.slice lb H2.length lc) := ⟨_, rfl⟩
      have z5 : W5.heap.size = w2.heap.size := by rw [hW5]; simp [World.setCell]
      have h5r : W5.heap[w.heap.size]? = some (.cells #[.slice a0 n0 c0, .slice lb H2.length lc, .slice a2 n2 c2] 31 (0, 0)) := by rw [hW5]; exact heap_setCell_same w2 _ 1 _ _ _ h2r
      have h5x : W5.heap[w.heap.size + 1 + 1]? = some (.cells #[.slice none 0 0, .slice none 0 0, .slice none 0 0] 31 (0, 0)) := by rw [hW5]; exact (Below.heap_setCell _ _ _ _ (by simp only; omega)).trans h2x
      have h5m : W5.heap[w.heap.size + 1]? = some (.cells #[.int .i64 ((n2 : Int) + 1), .int .i64 md, .int .i64 mk, .int .i64 ms, .int .i64 mf, .int .i64 mt, .int .i64 ma] 174 (0, 0)) := by rw [hW5]; exact (Below.heap_setCell _ _ _ _ (by simp only; omega)).trans h2m
      have hM5 : Sl 7 encMv (fun b => P b ∧ b < w.heap.size) W5.drew (.slice a2 n2 c2) R.ms := by
        have : Sl 7 encMv (fun b => P b ∧ b < w.heap.size) W5 (.slice a2 n2 c2) R.ms := by rw [hW5]; exact HM2.out.grown (grownBy_setCellZ ..) (fun b hb => by omega)
        exact this.drewN 1
      obtain ⟨i1, hi, hz0, hz1, hz2⟩ := info_parts infoMv
      obtain ⟨⟨a1', c1', W1, a2', c2', W7, hA1, hA2, oA, bA, bA1⟩, ⟨a3', c3', W3, a4', c4', W8, hB1, hB2', oB, bB, bB1⟩⟩ := run_clone_one (P := Tryz.prog) encMv_len oneMv W5.drew hM5 ⟨(n2 : Int) + 1, md, mk, ms, mf, mt, ma⟩ 29 29 29 174 i1 (.agg #[.int .i64 0, .int .i64 0, .int .i64 0, .int .i64 0, .int .i64 0, .int .i64 0, .int .i64 0]) 56 Tryz.underlying29 hi hz0 hz1 hz2 rfl (by decide) (by omega) (by omega) #[.int .i64 ((n2 : Int) + 1), .int .i64 md, .int .i64 mk, .int .i64 ms, .int .i64 mf, .int .i64 mt, .int .i64 ma] rfl
      have hS0 := HR.out.S.mono (Q := fun b => P b ∧ b < w.heap.size) (fun b h hl => ⟨h, hl⟩)
      have HFA := Lib.hid (fchange_fin (R := R) hP (show n2 + 1 = R.ms.length + 1 by rw [HN2.out]) HB2.out (by omega) hW5 bA (b1 := W.heap.size) (by omega) hS0 HO.out oA)
      have HFB := Lib.hid (fchange_fin (R := R) hP (show n2 + 1 = R.ms.length + 1 by rw [HN2.out]) HB2.out (by omega) hW5 bB (b1 := W.heap.size) (by omega) hS0 HO.out oB)
      have HQ4 := Lib.hid (show (⟨R.secs, H2, R.ms ++ [⟨(n2 : Int) + 1, md, mk, ms, mf, mt, ma⟩]⟩ : Reg) = Q by rw [← HQ3.out]; simp)
      have zd : W5.drew.heap.size = W5.heap.size := rfl
      have hAr : W7.heap[w.heap.size]? = _ := (bA.block _ (by omega)).trans h5r
      have hAx : W7.heap[w.heap.size + 1 + 1]? = _ := (bA.block _ (by omega)).trans h5x
      have hBr : W8.heap[w.heap.size]? = _ := (bB.block _ (by omega)).trans h5r
      have hBx : W8.heap[w.heap.size + 1 + 1]? = _ := (bB.block _ (by omega)).trans h5x
      have h1r : W1.heap[w.heap.size]? = _ := (bA1.block _ (by omega)).trans h5r
      have h1x : W1.heap[w.heap.size + 1 + 1]? = _ := (bA1.block _ (by omega)).trans h5x
      have h1m : W1.heap[w.heap.size + 1]? = _ := (bA1.block _ (by omega)).trans h5m
      have h3r : W3.heap[w.heap.size]? = _ := (bB1.block _ (by omega)).trans h5r
      have h3x : W3.heap[w.heap.size + 1 + 1]? = _ := (bB1.block _ (by omega)).trans h5x
      have h3m : W3.heap[w.heap.size + 1]? = _ := (bB1.block _ (by omega)).trans h5m
      have HA1 := Lib.hid hA1
      have HA2 := Lib.hid hA2
      have hB1' : (Builtin.append_ #[29, 29] 29 #[.slice none 0 0, .slice a2 n2 c2]).run Tryz.prog ((W5.alloc (.cells #[.int .i64 ((n2 : Int) + 1), .int .i64 md, .int .i64 mk, .int .i64 ms, .int .i64 mf, .int .i64 mt, .int .i64 ma] 174 (0, 0))).drew) = .ok (.slice a3' n2 c3') W3 := hB1
      have HBB1 := Lib.hid hB1'
      have HBB2 := Lib.hid hB2'
      have zA1 := bA1.size
      have zB1 := bB1.size
      have zA := bA.size
      have zB := bB.size
      have q2 : w2.cell? ⟨w.heap.size, 1, none⟩ = _ := cell_heap (i := 1) h2r rfl
      have qf : w2.frozen? ⟨w.heap.size, 1, none⟩ = false := frozen_of_row w2 _ _ _ _ h2r
      have HW5 := Lib.hid hW5
      clear hA1 hA2 hB1 hB1' hB2' oA oB bA bA1 bB bB1 hM5 hS0 hW5
      have y0 : W5.cell? ⟨w.heap.size, 0, none⟩ = some (.slice a0 n0 c0) := cell_heap (i := 0) h5r rfl
      have y1 : W5.cell? ⟨w.heap.size, 1, none⟩ = some (.slice lb H2.length lc) := cell_heap (i := 1) h5r rfl
      have y2 : W5.cell? ⟨w.heap.size, 2, none⟩ = some (.slice a2 n2 c2) := cell_heap (i := 2) h5r rfl
      have yf2 : W5.frozen? ⟨w.heap.size, 2, none⟩ = false := frozen_of_row W5 _ _ _ _ h5r
      have yx0 : W5.cell? ⟨w.heap.size + 1 + 1, 0, none⟩ = some (.slice none 0 0) := cell_heap (i := 0) h5x rfl
      have yx1 : W5.cell? ⟨w.heap.size + 1 + 1, 1, none⟩ = some (.slice none 0 0) := cell_heap (i := 1) h5x rfl
      have yx2 : W5.cell? ⟨w.heap.size + 1 + 1, 2, none⟩ = some (.slice none 0 0) := cell_heap (i := 2) h5x rfl
      have yxf0 : W5.frozen? ⟨w.heap.size + 1 + 1, 0, none⟩ = false := frozen_of_row W5 _ _ _ _ h5x
      have yxf1 : W5.frozen? ⟨w.heap.size + 1 + 1, 1, none⟩ = false := frozen_of_row W5 _ _ _ _ h5x
      have yxf2 : W5.frozen? ⟨w.heap.size + 1 + 1, 2, none⟩ = false := frozen_of_row W5 _ _ _ _ h5x
      have ym0 : W5.cell? ⟨w.heap.size + 1, 0, none⟩ = some (.int .i64 ((n2 : Int) + 1)) := cell_heap (i := 0) h5m rfl
      have ym1 : W5.cell? ⟨w.heap.size + 1, 1, none⟩ = some (.int .i64 md) := cell_heap (i := 1) h5m rfl
      have ym2 : W5.cell? ⟨w.heap.size + 1, 2, none⟩ = some (.int .i64 mk) := cell_heap (i := 2) h5m rfl
      have ym3 : W5.cell? ⟨w.heap.size + 1, 3, none⟩ = some (.int .i64 ms) := cell_heap (i := 3) h5m rfl
      have ym4 : W5.cell? ⟨w.heap.size + 1, 4, none⟩ = some (.int .i64 mf) := cell_heap (i := 4) h5m rfl
      have ym5 : W5.cell? ⟨w.heap.size + 1, 5, none⟩ = some (.int .i64 mt) := cell_heap (i := 5) h5m rfl
      have ym6 : W5.cell? ⟨w.heap.size + 1, 6, none⟩ = some (.int .i64 ma) := cell_heap (i := 6) h5m rfl
      have ya0 : W1.cell? ⟨w.heap.size, 0, none⟩ = some (.slice a0 n0 c0) := cell_heap (i := 0) h1r rfl
      have ya1 : W1.cell? ⟨w.heap.size, 1, none⟩ = some (.slice lb H2.length lc) := cell_heap (i := 1) h1r rfl
      have ya2 : W1.cell? ⟨w.heap.size, 2, none⟩ = some (.slice a2 n2 c2) := cell_heap (i := 2) h1r rfl
      have yaf2 : W1.frozen? ⟨w.heap.size, 2, none⟩ = false := frozen_of_row W1 _ _ _ _ h1r
      have yax0 : W1.cell? ⟨w.heap.size + 1 + 1, 0, none⟩ = some (.slice none 0 0) := cell_heap (i := 0) h1x rfl
      have yax1 : W1.cell? ⟨w.heap.size + 1 + 1, 1, none⟩ = some (.slice none 0 0) := cell_heap (i := 1) h1x rfl
      have yax2 : W1.cell? ⟨w.heap.size + 1 + 1, 2, none⟩ = some (.slice none 0 0) := cell_heap (i := 2) h1x rfl
      have yaxf0 : W1.frozen? ⟨w.heap.size + 1 + 1, 0, none⟩ = false := frozen_of_row W1 _ _ _ _ h1x
      have yaxf1 : W1.frozen? ⟨w.heap.size + 1 + 1, 1, none⟩ = false := frozen_of_row W1 _ _ _ _ h1x
      have yaxf2 : W1.frozen? ⟨w.heap.size + 1 + 1, 2, none⟩ = false := frozen_of_row W1 _ _ _ _ h1x
      have yam0 : W1.cell? ⟨w.heap.size + 1, 0, none⟩ = some (.int .i64 ((n2 : Int) + 1)) := cell_heap (i := 0) h1m rfl
      have yam1 : W1.cell? ⟨w.heap.size + 1, 1, none⟩ = some (.int .i64 md) := cell_heap (i := 1) h1m rfl
      have yam2 : W1.cell? ⟨w.heap.size + 1, 2, none⟩ = some (.int .i64 mk) := cell_heap (i := 2) h1m rfl
      have yam3 : W1.cell? ⟨w.heap.size + 1, 3, none⟩ = some (.int .i64 ms) := cell_heap (i := 3) h1m rfl
      have yam4 : W1.cell? ⟨w.heap.size + 1, 4, none⟩ = some (.int .i64 mf) := cell_heap (i := 4) h1m rfl
      have yam5 : W1.cell? ⟨w.heap.size + 1, 5, none⟩ = some (.int .i64 mt) := cell_heap (i := 5) h1m rfl
      have yam6 : W1.cell? ⟨w.heap.size + 1, 6, none⟩ = some (.int .i64 ma) := cell_heap (i := 6) h1m rfl
      have yb0 : W3.cell? ⟨w.heap.size, 0, none⟩ = some (.slice a0 n0 c0) := cell_heap (i := 0) h3r rfl
      have yb1 : W3.cell? ⟨w.heap.size, 1, none⟩ = some (.slice lb H2.length lc) := cell_heap (i := 1) h3r rfl
      have yb2 : W3.cell? ⟨w.heap.size, 2, none⟩ = some (.slice a2 n2 c2) := cell_heap (i := 2) h3r rfl
      have ybf2 : W3.frozen? ⟨w.heap.size, 2, none⟩ = false := frozen_of_row W3 _ _ _ _ h3r
      have ybx0 : W3.cell? ⟨w.heap.size + 1 + 1, 0, none⟩ = some (.slice none 0 0) := cell_heap (i := 0) h3x rfl
      have ybx1 : W3.cell? ⟨w.heap.size + 1 + 1, 1, none⟩ = some (.slice none 0 0) := cell_heap (i := 1) h3x rfl
      have ybx2 : W3.cell? ⟨w.heap.size + 1 + 1, 2, none⟩ = some (.slice none 0 0) := cell_heap (i := 2) h3x rfl
      have ybxf0 : W3.frozen? ⟨w.heap.size + 1 + 1, 0, none⟩ = false := frozen_of_row W3 _ _ _ _ h3x
      have ybxf1 : W3.frozen? ⟨w.heap.size + 1 + 1, 1, none⟩ = false := frozen_of_row W3 _ _ _ _ h3x
      have ybxf2 : W3.frozen? ⟨w.heap.size + 1 + 1, 2, none⟩ = false := frozen_of_row W3 _ _ _ _ h3x
      have ybm0 : W3.cell? ⟨w.heap.size + 1, 0, none⟩ = some (.int .i64 ((n2 : Int) + 1)) := cell_heap (i := 0) h3m rfl
      have ybm1 : W3.cell? ⟨w.heap.size + 1, 1, none⟩ = some (.int .i64 md) := cell_heap (i := 1) h3m rfl
      have ybm2 : W3.cell? ⟨w.heap.size + 1, 2, none⟩ = some (.int .i64 mk) := cell_heap (i := 2) h3m rfl
      have ybm3 : W3.cell? ⟨w.heap.size + 1, 3, none⟩ = some (.int .i64 ms) := cell_heap (i := 3) h3m rfl
      have ybm4 : W3.cell? ⟨w.heap.size + 1, 4, none⟩ = some (.int .i64 mf) := cell_heap (i := 4) h3m rfl
      have ybm5 : W3.cell? ⟨w.heap.size + 1, 5, none⟩ = some (.int .i64 mt) := cell_heap (i := 5) h3m rfl
      have ybm6 : W3.cell? ⟨w.heap.size + 1, 6, none⟩ = some (.int .i64 ma) := cell_heap (i := 6) h3m rfl
      have za0 : W7.cell? ⟨w.heap.size, 0, none⟩ = some (.slice a0 n0 c0) := cell_heap (i := 0) hAr rfl
      have za1 : W7.cell? ⟨w.heap.size, 1, none⟩ = some (.slice lb H2.length lc) := cell_heap (i := 1) hAr rfl
      have za2 : W7.cell? ⟨w.heap.size, 2, none⟩ = some (.slice a2 n2 c2) := cell_heap (i := 2) hAr rfl
      have zaf2 : W7.frozen? ⟨w.heap.size, 2, none⟩ = false := frozen_of_row W7 _ _ _ _ hAr
      have zax0 : W7.cell? ⟨w.heap.size + 1 + 1, 0, none⟩ = some (.slice none 0 0) := cell_heap (i := 0) hAx rfl
      have zax1 : W7.cell? ⟨w.heap.size + 1 + 1, 1, none⟩ = some (.slice none 0 0) := cell_heap (i := 1) hAx rfl
      have zax2 : W7.cell? ⟨w.heap.size + 1 + 1, 2, none⟩ = some (.slice none 0 0) := cell_heap (i := 2) hAx rfl
      have zaxf0 : W7.frozen? ⟨w.heap.size + 1 + 1, 0, none⟩ = false := frozen_of_row W7 _ _ _ _ hAx
      have zaxf1 : W7.frozen? ⟨w.heap.size + 1 + 1, 1, none⟩ = false := frozen_of_row W7 _ _ _ _ hAx
      have zaxf2 : W7.frozen? ⟨w.heap.size + 1 + 1, 2, none⟩ = false := frozen_of_row W7 _ _ _ _ hAx
      have zb0 : W8.cell? ⟨w.heap.size, 0, none⟩ = some (.slice a0 n0 c0) := cell_heap (i := 0) hBr rfl
      have zb1 : W8.cell? ⟨w.heap.size, 1, none⟩ = some (.slice lb H2.length lc) := cell_heap (i := 1) hBr rfl
      have zb2 : W8.cell? ⟨w.heap.size, 2, none⟩ = some (.slice a2 n2 c2) := cell_heap (i := 2) hBr rfl
      have zbf2 : W8.frozen? ⟨w.heap.size, 2, none⟩ = false := frozen_of_row W8 _ _ _ _ hBr
      have zbx0 : W8.cell? ⟨w.heap.size + 1 + 1, 0, none⟩ = some (.slice none 0 0) := cell_heap (i := 0) hBx rfl
      have zbx1 : W8.cell? ⟨w.heap.size + 1 + 1, 1, none⟩ = some (.slice none 0 0) := cell_heap (i := 1) hBx rfl
      have zbx2 : W8.cell? ⟨w.heap.size + 1 + 1, 2, none⟩ = some (.slice none 0 0) := cell_heap (i := 2) hBx rfl
      have zbxf0 : W8.frozen? ⟨w.heap.size + 1 + 1, 0, none⟩ = false := frozen_of_row W8 _ _ _ _ hBx
      have zbxf1 : W8.frozen? ⟨w.heap.size + 1 + 1, 1, none⟩ = false := frozen_of_row W8 _ _ _ _ hBx
      have zbxf2 : W8.frozen? ⟨w.heap.size + 1 + 1, 2, none⟩ = false := frozen_of_row W8 _ _ _ _ hBx
      clear h2r h2x h2m h5r h5x h5m hAr hAx hBr hBx h1r h1x h1m h3r h3x h3m
      go_upto_region 15 with fail
      rw [← HW5.out]
      clear q2 qf
      have yb2' : (W5.alloc (.cells #[.int .i64 ((n2 : Int) + 1), .int .i64 md, .int .i64 mk, .int .i64 ms, .int .i64 mf, .int .i64 mt, .int .i64 ma] 174 (0, 0))).cell? ⟨w.heap.size, 2, none⟩ = some (.slice a2 n2 c2) := keepA (w := W5) y2
      rename_i K hK
      go_region_law (first | refine step_append_runZ rfl (.const (.slice none 0 0)) (.tmp 51) 29 29 rfl (.slice none 0 0) (.slice a2 n2 c2) (by simp [Act.eval, Act.put]) (by simp [Act.eval, Act.put]) HA1.out ?_ | refine step_append_runZ rfl (.const (.slice none 0 0)) (.tmp 51) 29 29 rfl (.slice none 0 0) (.slice a2 n2 c2) (by simp [Act.eval, Act.put]) (by simp [Act.eval, Act.put]) HBB1.out ?_ | refine step_append_runZ rfl (.tmp 52) (.tmp 54) 29 29 rfl (.slice a1' n2 c1') (.slice (some ⟨W1.heap.size, 0, none⟩) 1 1) (by simp [Act.eval, Act.put]) (by simp [Act.eval, Act.put]) HA2.out ?_ | refine step_append_runZ rfl (.tmp 52) (.tmp 54) 29 29 rfl (.slice a3' n2 c3') (.slice (some ⟨W5.drew.heap.size, 0, none⟩) 1 1) (by simp [Act.eval, Act.put]) (by simp [Act.eval, Act.put]) HBB2.out ?_)
      all_goals (refine hK _ _ ?_; go_wp2; first | (refine bodyPost_ret (v := .tuple #[.agg #[.slice a0 n0 c0, .slice lb H2.length lc, .slice a2' (n2 + 1) c2'], .int .i64 0]) (by simp [results, Tryz.results248, go_sem, zax0, zax1, zax2]) rfl ?_; rw [← HQ4.out]; exact HFA.out) | (refine bodyPost_ret (v := .tuple #[.agg #[.slice a0 n0 c0, .slice lb H2.length lc, .slice a4' (n2 + 1) c4'], .int .i64 0]) (by simp [results, Tryz.results248, go_sem, zbx0, zbx1, zbx2]) rfl ?_; rw [← HQ4.out]; exact HFB.out))
  · obtain ⟨b, off, xn, xd, xk, xs, xf, xt, xa, rfl, hpb, hb', hL, k0, k1, k2, k3, k4, k5, k6⟩ := HR1.out.M.mv (k := n2 - 1) (by omega)
    obtain ⟨k, hkk⟩ : ∃ k, n2 = k + 1 := ⟨n2 - 1, by omega⟩
    rw [show n2 - 1 = k by omega] at hL k0 k1 k2 k3 k4 k5 k6
    obtain rfl : D = xd := by rw [HDAY.out]; exact dayOr_last (HN2.out.trans hkk) hL
    clear hL
    have hgt : decide (0 < n2) = true := decide_eq_true (by omega)
    have hk1 : (n2 : Int) - 1 = (k : Int) := by omega
    have hk2 : IntKind.i64.wrap (k : Int) = k := IntWalk.i64_in _ (by omega)
    have hk3 : k < n2 := by omega
    clear hkk
    clear h20 HL0
    go_wp2_with fail
    rw [← HWW.out]
    refine (HMV.out _ W HRW.out).mono ?_
    rintro e w2 ⟨v', rfl, hnil, hown, hb2⟩
    have zW : W.heap.size = w1.heap.size := by rw [HWW.out]; simp [World.setCell]
    have z2 := hb2.size
    have hrW : W.heap[w.heap.size]? = some (.cells #[.slice a0 n0 c0, .slice a1 n1 c1, .slice (some ⟨b, off, none⟩) n2 c2] 31 (0, 0)) := by rw [HWW.out]; exact (Below.heap_setCell _ _ _ _ (by simp only; omega)).trans HBR.out
    have hxW : W.heap[w.heap.size + 1 + 1]? = some (.cells #[.slice none 0 0, .slice none 0 0, .slice none 0 0] 31 (0, 0)) := by rw [HWW.out]; exact (Below.heap_setCell _ _ _ _ (by simp only; omega)).trans HBX.out
    have hmW : W.heap[w.heap.size + 1]? = some (.cells #[.int .i64 ((n2 : Int) + 1), .int .i64 md, .int .i64 mk, .int .i64 ms, .int .i64 mf, .int .i64 mt, .int .i64 ma] 174 (0, 0)) := by rw [HWW.out]; exact heap_setCell_same w1 _ 0 _ _ _ HBM.out
    have hBW : Below w.heap.size w W := by rw [HWW.out]; exact bset HB1.out (by simp only; omega) _
    have h2r := (hb2.block _ (by omega)).trans hrW
    have h2x := (hb2.block _ (by omega)).trans hxW
    have h2m := (hb2.block _ (by omega)).trans hmW
    have HB2 := Lib.hid (bup hBW hb2)
    have HM2 := Lib.hid (HRW.out.M.below hb2)
    clear m0 m1 m2 m3 m4 m5 m6 mf0 r0 r1 r2 hrW hxW hmW hBW hb2
    by_cases hE : E = 0
    rotate_left
    · have g1 : (E != 0) = true := by simpa using hE
      have g2 : (E == 0) = false := by simpa using hE
      have hf2 := Lib.hid (show Q = ⟨[], [], []⟩ by rw [← HQ3.out, if_neg hE])
      obtain rfl := hnil hE
      have x0 := cell_heap (i := 0) h2x rfl
      have x1 := cell_heap (i := 1) h2x rfl
      have x2 := cell_heap (i := 2) h2x rfl
      have xf0 : w2.frozen? ⟨w.heap.size + 1 + 1, 0, none⟩ = false := frozen_of_row w2 _ _ _ _ h2x
      have xf1 : w2.frozen? ⟨w.heap.size + 1 + 1, 1, none⟩ = false := frozen_of_row w2 _ _ _ _ h2x
      have xf2 : w2.frozen? ⟨w.heap.size + 1 + 1, 2, none⟩ = false := frozen_of_row w2 _ _ _ _ h2x
      clear h2r h2x h2m hnil hown
      go_wp2
      refine bodyPost_ret (v := .tuple #[.agg #[.slice none 0 0, .slice none 0 0, .slice none 0 0], .int .i64 E]) (by simp [results, Tryz.results248, go_sem, x0, x1, x2]) rfl (gave_nil hf2.out rfl ?_)
      exact bset3 HB2.out (by omega) _ _ _
    · subst hE
      have ho := hown rfl
      obtain ⟨lb, lc, rfl⟩ := own_slice0 ho
      have HO := Lib.hid ho
      clear hnil hown ho
      obtain ⟨W5, hW5⟩ : ∃ W, W = w2.setCell ⟨w.heap.size, 1, none⟩ (.slice lb H2.length lc) := ⟨_, rfl⟩
      have z5 : W5.heap.size = w2.heap.size := by rw [hW5]; simp [World.setCell]
      have h5r : W5.heap[w.heap.size]? = some (.cells #[.slice a0 n0 c0, .slice lb H2.length lc, .slice (some ⟨b, off, none⟩) n2 c2] 31 (0, 0)) := by rw [hW5]; exact heap_setCell_same w2 _ 1 _ _ _ h2r
      have h5x : W5.heap[w.heap.size + 1 + 1]? = some (.cells #[.slice none 0 0, .slice none 0 0, .slice none 0 0] 31 (0, 0)) := by rw [hW5]; exact (Below.heap_setCell _ _ _ _ (by simp only; omega)).trans h2x
      have h5m : W5.heap[w.heap.size + 1]? = some (.cells #[.int .i64 ((n2 : Int) + 1), .int .i64 md, .int .i64 mk, .int .i64 ms, .int .i64 mf, .int .i64 mt, .int .i64 ma] 174 (0, 0)) := by rw [hW5]; exact (Below.heap_setCell _ _ _ _ (by simp only; omega)).trans h2m
      have hM5 : Sl 7 encMv (fun b => P b ∧ b < w.heap.size) W5.drew (.slice (some ⟨b, off, none⟩) n2 c2) R.ms := by
        have : Sl 7 encMv (fun b => P b ∧ b < w.heap.size) W5 (.slice (some ⟨b, off, none⟩) n2 c2) R.ms := by rw [hW5]; exact HM2.out.grown (grownBy_setCellZ ..) (fun b hb => by omega)
        exact this.drewN 1
      obtain ⟨i1, hi, hz0, hz1, hz2⟩ := info_parts infoMv
      obtain ⟨⟨a1', c1', W1, a2', c2', W7, hA1, hA2, oA, bA, bA1⟩, ⟨a3', c3', W3, a4', c4', W8, hB1, hB2', oB, bB, bB1⟩⟩ := run_clone_one (P := Tryz.prog) encMv_len oneMv W5.drew hM5 ⟨(n2 : Int) + 1, md, mk, ms, mf, mt, ma⟩ 29 29 29 174 i1 (.agg #[.int .i64 0, .int .i64 0, .int .i64 0, .int .i64 0, .int .i64 0, .int .i64 0, .int .i64 0]) 56 Tryz.underlying29 hi hz0 hz1 hz2 rfl (by decide) (by omega) (by omega) #[.int .i64 ((n2 : Int) + 1), .int .i64 md, .int .i64 mk, .int .i64 ms, .int .i64 mf, .int .i64 mt, .int .i64 ma] rfl
      have hS0 := HR.out.S.mono (Q := fun b => P b ∧ b < w.heap.size) (fun b h hl => ⟨h, hl⟩)
      have HFA := Lib.hid (fchange_fin (R := R) hP (show n2 + 1 = R.ms.length + 1 by rw [HN2.out]) HB2.out (by omega) hW5 bA (b1 := W.heap.size) (by omega) hS0 HO.out oA)
      have HFB := Lib.hid (fchange_fin (R := R) hP (show n2 + 1 = R.ms.length + 1 by rw [HN2.out]) HB2.out (by omega) hW5 bB (b1 := W.heap.size) (by omega) hS0 HO.out oB)
      have HQ4 := Lib.hid (show (⟨R.secs, H2, R.ms ++ [⟨(n2 : Int) + 1, md, mk, ms, mf, mt, ma⟩]⟩ : Reg) = Q by rw [← HQ3.out]; simp)
      have zd : W5.drew.heap.size = W5.heap.size := rfl
      have hAr : W7.heap[w.heap.size]? = _ := (bA.block _ (by omega)).trans h5r
      have hAx : W7.heap[w.heap.size + 1 + 1]? = _ := (bA.block _ (by omega)).trans h5x
      have hBr : W8.heap[w.heap.size]? = _ := (bB.block _ (by omega)).trans h5r
      have hBx : W8.heap[w.heap.size + 1 + 1]? = _ := (bB.block _ (by omega)).trans h5x
      have h1r : W1.heap[w.heap.size]? = _ := (bA1.block _ (by omega)).trans h5r
      have h1x : W1.heap[w.heap.size + 1 + 1]? = _ := (bA1.block _ (by omega)).trans h5x
      have h1m : W1.heap[w.heap.size + 1]? = _ := (bA1.block _ (by omega)).trans h5m
      have h3r : W3.heap[w.heap.size]? = _ := (bB1.block _ (by omega)).trans h5r
      have h3x : W3.heap[w.heap.size + 1 + 1]? = _ := (bB1.block _ (by omega)).trans h5x
      have h3m : W3.heap[w.heap.size + 1]? = _ := (bB1.block _ (by omega)).trans h5m
      have HA1 := Lib.hid hA1
      have HA2 := Lib.hid hA2
      have hB1' : (Builtin.append_ #[29, 29] 29 #[.slice none 0 0, .slice (some ⟨b, off, none⟩) n2 c2]).run Tryz.prog ((W5.alloc (.cells #[.int .i64 ((n2 : Int) + 1), .int .i64 md, .int .i64 mk, .int .i64 ms, .int .i64 mf, .int .i64 mt, .int .i64 ma] 174 (0, 0))).drew) = .ok (.slice a3' n2 c3') W3 := hB1
      have HBB1 := Lib.hid hB1'
      have HBB2 := Lib.hid hB2'
      have zA1 := bA1.size
      have zB1 := bB1.size
      have zA := bA.size
      have zB := bB.size
      have q2 : w2.cell? ⟨w.heap.size, 1, none⟩ = _ := cell_heap (i := 1) h2r rfl
      have qf : w2.frozen? ⟨w.heap.size, 1, none⟩ = false := frozen_of_row w2 _ _ _ _ h2r
      have HW5 := Lib.hid hW5
      clear hA1 hA2 hB1 hB1' hB2' oA oB bA bA1 bB bB1 hM5 hS0 hW5
      have y0 : W5.cell? ⟨w.heap.size, 0, none⟩ = some (.slice a0 n0 c0) := cell_heap (i := 0) h5r rfl
      have y1 : W5.cell? ⟨w.heap.size, 1, none⟩ = some (.slice lb H2.length lc) := cell_heap (i := 1) h5r rfl
      have y2 : W5.cell? ⟨w.heap.size, 2, none⟩ = some (.slice (some ⟨b, off, none⟩) n2 c2) := cell_heap (i := 2) h5r rfl
      have yf2 : W5.frozen? ⟨w.heap.size, 2, none⟩ = false := frozen_of_row W5 _ _ _ _ h5r
      have yx0 : W5.cell? ⟨w.heap.size + 1 + 1, 0, none⟩ = some (.slice none 0 0) := cell_heap (i := 0) h5x rfl
      have yx1 : W5.cell? ⟨w.heap.size + 1 + 1, 1, none⟩ = some (.slice none 0 0) := cell_heap (i := 1) h5x rfl
      have yx2 : W5.cell? ⟨w.heap.size + 1 + 1, 2, none⟩ = some (.slice none 0 0) := cell_heap (i := 2) h5x rfl
      have yxf0 : W5.frozen? ⟨w.heap.size + 1 + 1, 0, none⟩ = false := frozen_of_row W5 _ _ _ _ h5x
      have yxf1 : W5.frozen? ⟨w.heap.size + 1 + 1, 1, none⟩ = false := frozen_of_row W5 _ _ _ _ h5x
      have yxf2 : W5.frozen? ⟨w.heap.size + 1 + 1, 2, none⟩ = false := frozen_of_row W5 _ _ _ _ h5x
      have ym0 : W5.cell? ⟨w.heap.size + 1, 0, none⟩ = some (.int .i64 ((n2 : Int) + 1)) := cell_heap (i := 0) h5m rfl
      have ym1 : W5.cell? ⟨w.heap.size + 1, 1, none⟩ = some (.int .i64 md) := cell_heap (i := 1) h5m rfl
      have ym2 : W5.cell? ⟨w.heap.size + 1, 2, none⟩ = some (.int .i64 mk) := cell_heap (i := 2) h5m rfl
      have ym3 : W5.cell? ⟨w.heap.size + 1, 3, none⟩ = some (.int .i64 ms) := cell_heap (i := 3) h5m rfl
      have ym4 : W5.cell? ⟨w.heap.size + 1, 4, none⟩ = some (.int .i64 mf) := cell_heap (i := 4) h5m rfl
      have ym5 : W5.cell? ⟨w.heap.size + 1, 5, none⟩ = some (.int .i64 mt) := cell_heap (i := 5) h5m rfl
      have ym6 : W5.cell? ⟨w.heap.size + 1, 6, none⟩ = some (.int .i64 ma) := cell_heap (i := 6) h5m rfl
      have ya0 : W1.cell? ⟨w.heap.size, 0, none⟩ = some (.slice a0 n0 c0) := cell_heap (i := 0) h1r rfl
      have ya1 : W1.cell? ⟨w.heap.size, 1, none⟩ = some (.slice lb H2.length lc) := cell_heap (i := 1) h1r rfl
      have ya2 : W1.cell? ⟨w.heap.size, 2, none⟩ = some (.slice (some ⟨b, off, none⟩) n2 c2) := cell_heap (i := 2) h1r rfl
      have yaf2 : W1.frozen? ⟨w.heap.size, 2, none⟩ = false := frozen_of_row W1 _ _ _ _ h1r
      have yax0 : W1.cell? ⟨w.heap.size + 1 + 1, 0, none⟩ = some (.slice none 0 0) := cell_heap (i := 0) h1x rfl
      have yax1 : W1.cell? ⟨w.heap.size + 1 + 1, 1, none⟩ = some (.slice none 0 0) := cell_heap (i := 1) h1x rfl
      have yax2 : W1.cell? ⟨w.heap.size + 1 + 1, 2, none⟩ = some (.slice none 0 0) := cell_heap (i := 2) h1x rfl
      have yaxf0 : W1.frozen? ⟨w.heap.size + 1 + 1, 0, none⟩ = false := frozen_of_row W1 _ _ _ _ h1x
      have yaxf1 : W1.frozen? ⟨w.heap.size + 1 + 1, 1, none⟩ = false := frozen_of_row W1 _ _ _ _ h1x
      have yaxf2 : W1.frozen? ⟨w.heap.size + 1 + 1, 2, none⟩ = false := frozen_of_row W1 _ _ _ _ h1x
      have yam0 : W1.cell? ⟨w.heap.size + 1, 0, none⟩ = some (.int .i64 ((n2 : Int) + 1)) := cell_heap (i := 0) h1m rfl
      have yam1 : W1.cell? ⟨w.heap.size + 1, 1, none⟩ = some (.int .i64 md) := cell_heap (i := 1) h1m rfl
      have yam2 : W1.cell? ⟨w.heap.size + 1, 2, none⟩ = some (.int .i64 mk) := cell_heap (i := 2) h1m rfl
      have yam3 : W1.cell? ⟨w.heap.size + 1, 3, none⟩ = some (.int .i64 ms) := cell_heap (i := 3) h1m rfl
      have yam4 : W1.cell? ⟨w.heap.size + 1, 4, none⟩ = some (.int .i64 mf) := cell_heap (i := 4) h1m rfl
      have yam5 : W1.cell? ⟨w.heap.size + 1, 5, none⟩ = some (.int .i64 mt) := cell_heap (i := 5) h1m rfl
      have yam6 : W1.cell? ⟨w.heap.size + 1, 6, none⟩ = some (.int .i64 ma) := cell_heap (i := 6) h1m rfl
      have yb0 : W3.cell? ⟨w.heap.size, 0, none⟩ = some (.slice a0 n0 c0) := cell_heap (i := 0) h3r rfl
      have yb1 : W3.cell? ⟨w.heap.size, 1, none⟩ = some (.slice lb H2.length lc) := cell_heap (i := 1) h3r rfl
      have yb2 : W3.cell? ⟨w.heap.size, 2, none⟩ = some (.slice (some ⟨b, off, none⟩) n2 c2) := cell_heap (i := 2) h3r rfl
      have ybf2 : W3.frozen? ⟨w.heap.size, 2, none⟩ = false := frozen_of_row W3 _ _ _ _ h3r
      have ybx0 : W3.cell? ⟨w.heap.size + 1 + 1, 0, none⟩ = some (.slice none 0 0) := cell_heap (i := 0) h3x rfl
      have ybx1 : W3.cell? ⟨w.heap.size + 1 + 1, 1, none⟩ = some (.slice none 0 0) := cell_heap (i := 1) h3x rfl
      have ybx2 : W3.cell? ⟨w.heap.size + 1 + 1, 2, none⟩ = some (.slice none 0 0) := cell_heap (i := 2) h3x rfl
      have ybxf0 : W3.frozen? ⟨w.heap.size + 1 + 1, 0, none⟩ = false := frozen_of_row W3 _ _ _ _ h3x
      have ybxf1 : W3.frozen? ⟨w.heap.size + 1 + 1, 1, none⟩ = false := frozen_of_row W3 _ _ _ _ h3x
      have ybxf2 : W3.frozen? ⟨w.heap.size + 1 + 1, 2, none⟩ = false := frozen_of_row W3 _ _ _ _ h3x
      have ybm0 : W3.cell? ⟨w.heap.size + 1, 0, none⟩ = some (.int .i64 ((n2 : Int) + 1)) := cell_heap (i := 0) h3m rfl
      have ybm1 : W3.cell? ⟨w.heap.size + 1, 1, none⟩ = some (.int .i64 md) := cell_heap (i := 1) h3m rfl
      have ybm2 : W3.cell? ⟨w.heap.size + 1, 2, none⟩ = some (.int .i64 mk) := cell_heap (i := 2) h3m rfl
      have ybm3 : W3.cell? ⟨w.heap.size + 1, 3, none⟩ = some (.int .i64 ms) := cell_heap (i := 3) h3m rfl
      have ybm4 : W3.cell? ⟨w.heap.size + 1, 4, none⟩ = some (.int .i64 mf) := cell_heap (i := 4) h3m rfl
      have ybm5 : W3.cell? ⟨w.heap.size + 1, 5, none⟩ = some (.int .i64 mt) := cell_heap (i := 5) h3m rfl
      have ybm6 : W3.cell? ⟨w.heap.size + 1, 6, none⟩ = some (.int .i64 ma) := cell_heap (i := 6) h3m rfl
      have za0 : W7.cell? ⟨w.heap.size, 0, none⟩ = some (.slice a0 n0 c0) := cell_heap (i := 0) hAr rfl
      have za1 : W7.cell? ⟨w.heap.size, 1, none⟩ = some (.slice lb H2.length lc) := cell_heap (i := 1) hAr rfl
      have za2 : W7.cell? ⟨w.heap.size, 2, none⟩ = some (.slice (some ⟨b, off, none⟩) n2 c2) := cell_heap (i := 2) hAr rfl
      have zaf2 : W7.frozen? ⟨w.heap.size, 2, none⟩ = false := frozen_of_row W7 _ _ _ _ hAr
      have zax0 : W7.cell? ⟨w.heap.size + 1 + 1, 0, none⟩ = some (.slice none 0 0) := cell_heap (i := 0) hAx rfl
      have zax1 : W7.cell? ⟨w.heap.size + 1 + 1, 1, none⟩ = some (.slice none 0 0) := cell_heap (i := 1) hAx rfl
      have zax2 : W7.cell? ⟨w.heap.size + 1 + 1, 2, none⟩ = some (.slice none 0 0) := cell_heap (i := 2) hAx rfl
      have zaxf0 : W7.frozen? ⟨w.heap.size + 1 + 1, 0, none⟩ = false := frozen_of_row W7 _ _ _ _ hAx
      have zaxf1 : W7.frozen? ⟨w.heap.size + 1 + 1, 1, none⟩ = false := frozen_of_row W7 _ _ _ _ hAx
      have zaxf2 : W7.frozen? ⟨w.heap.size + 1 + 1, 2, none⟩ = false := frozen_of_row W7 _ _ _ _ hAx
      have zb0 : W8.cell? ⟨w.heap.size, 0, none⟩ = some (.slice a0 n0 c0) := cell_heap (i := 0) hBr rfl
      have zb1 : W8.cell? ⟨w.heap.size, 1, none⟩ = some (.slice lb H2.length lc) := cell_heap (i := 1) hBr rfl
      have zb2 : W8.cell? ⟨w.heap.size, 2, none⟩ = some (.slice (some ⟨b, off, none⟩) n2 c2) := cell_heap (i := 2) hBr rfl
      have zbf2 : W8.frozen? ⟨w.heap.size, 2, none⟩ = false := frozen_of_row W8 _ _ _ _ hBr
      have zbx0 : W8.cell? ⟨w.heap.size + 1 + 1, 0, none⟩ = some (.slice none 0 0) := cell_heap (i := 0) hBx rfl
      have zbx1 : W8.cell? ⟨w.heap.size + 1 + 1, 1, none⟩ = some (.slice none 0 0) := cell_heap (i := 1) hBx rfl
      have zbx2 : W8.cell? ⟨w.heap.size + 1 + 1, 2, none⟩ = some (.slice none 0 0) := cell_heap (i := 2) hBx rfl
      have zbxf0 : W8.frozen? ⟨w.heap.size + 1 + 1, 0, none⟩ = false := frozen_of_row W8 _ _ _ _ hBx
      have zbxf1 : W8.frozen? ⟨w.heap.size + 1 + 1, 1, none⟩ = false := frozen_of_row W8 _ _ _ _ hBx
      have zbxf2 : W8.frozen? ⟨w.heap.size + 1 + 1, 2, none⟩ = false := frozen_of_row W8 _ _ _ _ hBx
      clear h2r h2x h2m h5r h5x h5m hAr hAx hBr hBx h1r h1x h1m h3r h3x h3m
      go_upto_region 15 with fail
      rw [← HW5.out]
      clear q2 qf
      have yb2' : (W5.alloc (.cells #[.int .i64 ((n2 : Int) + 1), .int .i64 md, .int .i64 mk, .int .i64 ms, .int .i64 mf, .int .i64 mt, .int .i64 ma] 174 (0, 0))).cell? ⟨w.heap.size, 2, none⟩ = some (.slice (some ⟨b, off, none⟩) n2 c2) := keepA (w := W5) y2
      rename_i K hK
      go_region_law (first | refine step_append_runZ rfl (.const (.slice none 0 0)) (.tmp 51) 29 29 rfl (.slice none 0 0) (.slice (some ⟨b, off, none⟩) n2 c2) (by simp [Act.eval, Act.put]) (by simp [Act.eval, Act.put]) HA1.out ?_ | refine step_append_runZ rfl (.const (.slice none 0 0)) (.tmp 51) 29 29 rfl (.slice none 0 0) (.slice (some ⟨b, off, none⟩) n2 c2) (by simp [Act.eval, Act.put]) (by simp [Act.eval, Act.put]) HBB1.out ?_ | refine step_append_runZ rfl (.tmp 52) (.tmp 54) 29 29 rfl (.slice a1' n2 c1') (.slice (some ⟨W1.heap.size, 0, none⟩) 1 1) (by simp [Act.eval, Act.put]) (by simp [Act.eval, Act.put]) HA2.out ?_ | refine step_append_runZ rfl (.tmp 52) (.tmp 54) 29 29 rfl (.slice a3' n2 c3') (.slice (some ⟨W5.drew.heap.size, 0, none⟩) 1 1) (by simp [Act.eval, Act.put]) (by simp [Act.eval, Act.put]) HBB2.out ?_)
      all_goals (refine hK _ _ ?_; go_wp2; first | (refine bodyPost_ret (v := .tuple #[.agg #[.slice a0 n0 c0, .slice lb H2.length lc, .slice a2' (n2 + 1) c2'], .int .i64 0]) (by simp [results, Tryz.results248, go_sem, zax0, zax1, zax2]) rfl ?_; rw [← HQ4.out]; exact HFA.out) | (refine bodyPost_ret (v := .tuple #[.agg #[.slice a0 n0 c0, .slice lb H2.length lc, .slice a4' (n2 + 1) c4'], .int .i64 0]) (by simp [results, Tryz.results248, go_sem, zbx0, zbx1, zbx2]) rfl ?_; rw [← HQ4.out]; exact HFB.out))
theorem fchange_any (P : Nat → Prop) (vs vh vm : Value) (R : Reg) (m : Mv) (w : World) (hr : RgIn P w vs vh vm R) (hS : R.secs.length ≤ 1000000) (hH : R.hs.length ≤ 1000000) (hM : R.ms.length ≤ 1000000) (hP : ∀ b, w.heap.size ≤ b → P b) (hko : kindOk m) :
    Calls Tryz.prog 248 #[.agg #[vs, vh, vm], .agg #[.int .i64 m.num, .int .i64 m.day, .int .i64 m.kind, .int .i64 m.s, .int .i64 m.f, .int .i64 m.t, .int .i64 m.a]] w (GaveR P (rmR R m) (rmE R m) w) := by
  by_cases hx : chkE R = 0
  · by_cases hy : R.ms.length = 400
    · exact fchange_full P vs vh vm R _ _ _ _ _ _ _ w hr hS hH hM hP hx hy
    · exact fchange_go P vs vh vm R _ _ _ _ _ _ _ w hr hS hH hM hP hx hy hko
  · exact fchange_bad P vs vh vm R _ _ _ _ _ _ _ w hr hS hH hM hP hx
end Go.Proofs.YthjaofgdickkaaaGreat
