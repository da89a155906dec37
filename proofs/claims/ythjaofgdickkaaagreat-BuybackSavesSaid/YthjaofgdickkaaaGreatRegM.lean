/- register: move, the way that ends well. -/
import Derived.Test.YthjaofgdickkaaaGreatRegL
namespace Go.Proofs.YthjaofgdickkaaaGreat
open Go.RowKit
set_option linter.unusedVariables false
set_option linter.unusedSimpArgs false
theorem own_apart {w : World} {b b' : Nat} {T T' : TypeId} {z z' : Nat} {v v' : Value} {n n' : Nat} {xs xs' : List Value} (h : w.ownsRow b T z v n xs) (h' : w.ownsRow b' T' z' v' n' xs') (hT : T ≠ T') : v.ownBlock = none ∨ v.ownBlock ≠ v'.ownBlock := by
  rcases h.2 with ⟨rfl, -⟩ | ⟨g, cap, cur, rfl, -, hg, -⟩
  · exact .inl rfl
  · rcases h'.2 with ⟨rfl, -⟩ | ⟨g', cap', cur', rfl, -, hg', -⟩
    · exact .inr (by simp [Value.ownBlock])
    · refine .inr fun e => hT ?_
      simp only [Value.ownBlock, Option.some.injEq] at e
      subst e
      rw [hg] at hg'
      simp only [Option.some.injEq, Obj.cells.injEq] at hg'
      exact hg'.2.1
theorem grownBy_set2 (w : World) (b : Nat) (i j : Nat) (v0 v1 : Value) : w.grownBy ((w.setCell ⟨b, i, none⟩ v0).setCell ⟨b, j, none⟩ v1) (some b) := grownBy_transZ (grownBy_setCellZ ..) (grownBy_setCellZ ..)
/-- the register that move hands back -/
theorem rmove_fin {P : Nat → Prop} {R : Reg} {H2 : List Hold} {mm : Mv} {w W5 W6 W7 : World} {B b1 : Nat} {s1 s2 s3 s7 : Option Addr} {t1 t2 t3 t7 : Nat} {o : Obj} (hP : ∀ b, w.heap.size ≤ b → P b)
    (h5 : Below w.heap.size w W5) (h6 : W6 = (W5.alloc o).drew) (h7 : W6.grownBy W7 (Value.slice s3 R.ms.length t3).ownBlock) (hB : w.heap.size + 3 ≤ B) (hb1 : w.heap.size + 3 ≤ b1) (h57 : B ≤ W5.heap.size)
    (o1 : W5.ownsRow B 26 7 (.slice s1 R.secs.length t1) R.secs.length (flatE encSec R.secs))
    (o2 : W5.ownsRow b1 171 3 (.slice s2 H2.length t2) H2.length (flatE encHold H2))
    (o3 : W5.ownsRow B 174 7 (.slice s3 R.ms.length t3) R.ms.length (flatE encMv R.ms))
    (o7 : W7.ownsRow B 174 7 (.slice s7 (R.ms.length + 1) t7) (R.ms.length + 1) (flatE encMv R.ms ++ encMv mm)) :
    GaveR P ⟨R.secs, H2, R.ms ++ [mm]⟩ 0 w (.returned (.tuple #[.agg #[.slice s1 R.secs.length t1, .slice s2 H2.length t2, .slice s7 (R.ms.length + 1) t7], .int .i64 0]))
      (((((W7.setCell ⟨w.heap.size, 1, none⟩ (.slice s2 H2.length t2)).setCell ⟨w.heap.size, 2, none⟩ (.slice s7 (R.ms.length + 1) t7)).setCell ⟨w.heap.size + 1 + 1, 0, none⟩ (.slice s1 R.secs.length t1)).setCell ⟨w.heap.size + 1 + 1, 1, none⟩ (.slice s2 H2.length t2)).setCell ⟨w.heap.size + 1 + 1, 2, none⟩ (.slice s7 (R.ms.length + 1) t7)) := by
  have q1 : W6.ownsRow B 26 7 (.slice s1 R.secs.length t1) R.secs.length (flatE encSec R.secs) := by rw [h6]; exact (show (W5.alloc o).ownsRow _ _ _ _ _ _ from o1.alloc _)
  have q2 : W6.ownsRow b1 171 3 (.slice s2 H2.length t2) H2.length (flatE encHold H2) := by rw [h6]; exact (show (W5.alloc o).ownsRow _ _ _ _ _ _ from o2.alloc _)
  have q3 : W6.ownsRow B 174 7 (.slice s3 R.ms.length t3) R.ms.length (flatE encMv R.ms) := by rw [h6]; exact (show (W5.alloc o).ownsRow _ _ _ _ _ _ from o3.alloc _)
  have p1 := q1.kept h7 (own_apart q1 q3 (by decide))
  have p2 := q2.kept h7 (own_apart q2 q3 (by decide))
  have g1 := grownBy_set2 W7 w.heap.size 1 2 (.slice s2 H2.length t2) (.slice s7 (R.ms.length + 1) t7)
  have g2 := grownBy_set3 ((W7.setCell ⟨w.heap.size, 1, none⟩ (.slice s2 H2.length t2)).setCell ⟨w.heap.size, 2, none⟩ (.slice s7 (R.ms.length + 1) t7)) (w.heap.size + 1 + 1) (.slice s1 R.secs.length t1) (.slice s2 H2.length t2) (.slice s7 (R.ms.length + 1) t7)
  have r1 := own_kept (own_kept p1 g1 (by omega)) g2 (by omega)
  have r2 := own_kept (own_kept p2 g1 (by omega)) g2 (by omega)
  have r7 := own_kept (own_kept o7 g1 (by omega)) g2 (by omega)
  have h66 : Below w.heap.size w W6 := by rw [h6]; exact bdr (bal h5 o)
  have z5 := h5.size
  have z6 := h66.size
  have b7 : Below w.heap.size w W7 := h66.grown h7 z6 (fun k hk => by have := (q3.lt k hk).1; omega)
  refine ⟨_, _, _, rfl, ⟨Sl.own encSec_len r1 rfl (fun b hb => hP b (by omega)), Sl.own encHold_len r2 rfl (fun b hb => hP b (by omega)), ?_⟩, bset3 (bset (bset b7 (Nat.le_refl _) _) (Nat.le_refl _) _) (by omega) _ _ _⟩
  refine Sl.own encMv_len (L := R.ms ++ [mm]) (n := R.ms.length + 1) (e := 174) (base := B) ?_ (by simp) (fun b hb => hP b (by omega))
  have e : flatE encMv (R.ms ++ [mm]) = flatE encMv R.ms ++ encMv mm := by simp [flatE]
  rw [e]; exact r7
set_option maxHeartbeats 4000000 in
set_option maxRecDepth 100000 in
theorem rmove_go (P : Nat → Prop) (vs vh vm : Value) (R : Reg) (mn md mk ms mf mt ma : Int) (w : World) (hr : RgIn P w vs vh vm R) (hS : R.secs.length ≤ 1000000) (hH : R.hs.length ≤ 1000000) (hM : R.ms.length ≤ 1000000) (hP : ∀ b, w.heap.size ≤ b → P b) (hx : chkE R = 0) (hy : R.ms.length ≠ 400) :
    Calls Tryz.prog 243 #[.agg #[vs, vh, vm], .agg #[.int .i64 mn, .int .i64 md, .int .i64 mk, .int .i64 ms, .int .i64 mf, .int .i64 mt, .int .i64 ma]] w (GaveR P (rmR R ⟨mn, md, mk, ms, mf, mt, ma⟩) (rmE R ⟨mn, md, mk, ms, mf, mt, ma⟩) w) := by
  obtain ⟨a0, n0, c0, rfl, -, -, -⟩ := hr.S.shape
  obtain ⟨a1, n1, c1, rfl, -, -, -⟩ := hr.H.shape
  obtain ⟨a2, n2, c2, rfl, hn2, -, -⟩ := hr.M.shape
  have HC := Lib.hid (fun W hW => check_any P _ _ _ R W (hr.below (w' := W) hW) hS hH hM)
  have HR := Lib.hid hr
  have HN2 := Lib.hid hn2
  obtain ⟨E0, hE0⟩ : ∃ E, chkE R = E := ⟨_, rfl⟩
  obtain ⟨E, hE⟩ : ∃ E, rmE R ⟨mn, md, mk, ms, mf, mt, ma⟩ = E := ⟨_, rfl⟩
  obtain ⟨Q, hQ⟩ : ∃ Q, rmR R ⟨mn, md, mk, ms, mf, mt, ma⟩ = Q := ⟨_, rfl⟩
  have hE2 := hE
  have hQ2 := hQ
  unfold rmE at hE2
  unfold rmR at hQ2
  rw [hE0] at HC hE2
  rw [hE] at hQ2
  rw [hE, hQ]
  have HE := Lib.hid hE2
  have HQ := Lib.hid hQ2
  have HE0 := Lib.hid hE0
  clear hr hE hQ hE2 hQ2 hE0 hn2
  have h0 : E0 = 0 := by rw [← HE0.out]; exact hx
  subst h0
  have h4 : ¬ n2 = 400 := by rw [← HN2.out]; exact hy
  clear hx hy
  have hok := chkE_iff.1 HE0.out
  have h4' : ((n2 : Int) == 400) = false := by simp; omega
  have hnn : R.ms.length = n2 := HN2.out
  have hnum : numbered R ⟨mn, md, mk, ms, mf, mt, ma⟩ = ⟨(n2 : Int) + 1, md, mk, ms, mf, mt, ma⟩ := by unfold numbered; rw [hnn]
  have hE3 : mvE R.secs R.hs (rgDay R) ⟨(n2 : Int) + 1, md, mk, ms, mf, mt, ma⟩ = E := by rw [← HE.out, if_pos rfl, if_neg (by rw [hnn]; exact h4), hnum]
  have hQ3 : (if E = 0 then ⟨R.secs, mvH R.hs ⟨(n2 : Int) + 1, md, mk, ms, mf, mt, ma⟩, R.ms ++ [⟨(n2 : Int) + 1, md, mk, ms, mf, mt, ma⟩]⟩ else ⟨[], [], []⟩) = Q := by rw [← HQ.out, hnum]
  have hD := fun W h1 h2 => replay_all (.slice a0 n0 c0) (.slice a1 n1 c1) (.slice a2 n2 c2) R.secs R.ms W h1 h2 hS (by have := hok.lm; omega) ⟨_, _, _, rfl⟩ hok.sec
  rw [hok.made, hnn] at hD
  have HD := Lib.hid hD
  have hn400 : n2 ≤ 400 := by have := hok.lm; omega
  have hDo := fun (cb : Nat) (W : World) (v : Value) (hC : CkIn cb W R.secs R.hs (n2 : Int) (rgDay R) (.slice a0 n0 c0) v) => do_any cb R.secs R.hs (n2 : Int) (rgDay R) (.slice a0 n0 c0) v ((n2 : Int) + 1) md mk ms mf mt ma W hC hS hok.hok (by have := hok.hl; omega) (by omega) (by omega) hok.sec
  rw [hE3] at hDo
  obtain ⟨H2, hH2⟩ : ∃ H2, mvH R.hs ⟨(n2 : Int) + 1, md, mk, ms, mf, mt, ma⟩ = H2 := ⟨_, rfl⟩
  rw [hH2] at hDo hQ3
  have HDO := Lib.hid hDo
  have HQ3 := Lib.hid hQ3
  have HE3 := Lib.hid hE3
  have HOK := Lib.hid hok
  clear hok hnn hnum hE3 hQ3 hD hDo hH2
  go_enter Tryz.func243, Tryz.ntmps243
  go_wp2_with fail
  refine (HC.out _ (bal (bal (bal brefl _) _) _)).mono ?_
  rintro e w1 ⟨rfl, hb1⟩
  have HB1 := Lib.hid (bup (bal (bal (bal brefl _) _) _) hb1)
  have zz := hb1.size
  simp only [World.size_alloc] at zz
  have r0 : w1.cell? ⟨w.heap.size, 0, none⟩ = some (.slice a0 n0 c0) := keepB hb1 (keepA (keepA ((World.cell?_alloc_at _ _ _ _ rfl).trans rfl)))
  have r1 : w1.cell? ⟨w.heap.size, 1, none⟩ = some (.slice a1 n1 c1) := keepB hb1 (keepA (keepA ((World.cell?_alloc_at _ _ _ _ rfl).trans rfl)))
  have r2 : w1.cell? ⟨w.heap.size, 2, none⟩ = some (.slice a2 n2 c2) := keepB hb1 (keepA (keepA ((World.cell?_alloc_at _ _ _ _ rfl).trans rfl)))
  have HBM := Lib.hid (show w1.heap[w.heap.size + 1]? = some (.cells #[.int .i64 mn, .int .i64 md, .int .i64 mk, .int .i64 ms, .int .i64 mf, .int .i64 mt, .int .i64 ma] 174 (0, 0)) from (hb1.block _ (by simp)).trans ((heap_alloc_old _ _ (by simp)).trans (heap_at (by simp))))
  have HBR := Lib.hid (show w1.heap[w.heap.size]? = some (.cells #[.slice a0 n0 c0, .slice a1 n1 c1, .slice a2 n2 c2] 31 (0, 0)) from (hb1.block _ (by simp; omega)).trans ((heap_alloc_old _ _ (by simp; omega)).trans ((heap_alloc_old _ _ (by simp)).trans (heap_alloc_new w _))))
  have HBX := Lib.hid (show w1.heap[w.heap.size + 1 + 1]? = some (.cells #[.slice none 0 0, .slice none 0 0, .slice none 0 0] 31 (0, 0)) from (hb1.block _ (by simp)).trans (heap_at (by simp)))
  have HR1 := Lib.hid (HR.out.below HB1.out)
  clear hb1
  go_wp2_with fail
  refine (HD.out _ HR1.out.any.S HR1.out.any.M).mono ?_
  rintro e w2 ⟨v', rfl, hC2, hb2⟩
  have z2 := hb2.size
  have hmb := Lib.hid ((hb2.block _ (by omega)).trans HBM.out)
  have hrb := Lib.hid ((hb2.block _ (by omega)).trans HBR.out)
  have hxb := Lib.hid ((hb2.block _ (by omega)).trans HBX.out)
  have HB2 := Lib.hid (bup HB1.out hb2)
  have m0 := cell_heap (i := 0) hmb.out rfl
  have m1 := cell_heap (i := 1) hmb.out rfl
  have m2 := cell_heap (i := 2) hmb.out rfl
  have m3 := cell_heap (i := 3) hmb.out rfl
  have m4 := cell_heap (i := 4) hmb.out rfl
  have m5 := cell_heap (i := 5) hmb.out rfl
  have m6 := cell_heap (i := 6) hmb.out rfl
  have mf0 : w2.frozen? ⟨w.heap.size + 1, 0, none⟩ = false := frozen_of_row w2 _ _ _ _ hmb.out
  have d2 := hC2.h2
  have hC3 : CkIn (w1.heap.size + 1) (w2.setCell ⟨w.heap.size + 1, 0, none⟩ (.int .i64 ((n2 : Int) + 1))) R.secs R.hs n2 (rgDay R) (.slice a0 n0 c0) v' := by
    refine hC2.set (by omega) ?_
    have q := (HR.out.S.mono (Q := fun b => b < w.heap.size) (fun b _ h => h)).below HB2.out
    exact (q.set (by intro k hk; omega)).mono (fun b hb _ => by omega)
  have HC3 := Lib.hid hC3
  clear hC3 hC2 hb2
  go_wp2_with fail
  refine (HDO.out _ _ _ HC3.out).mono ?_
  rintro e w3 hd
  have hb3 : Below (w1.heap.size + 1) (w2.setCell ⟨w.heap.size + 1, 0, none⟩ (.int .i64 ((n2 : Int) + 1))) w3 := by
    rcases hd with ⟨-, -, hb⟩ | ⟨-, -, -, hb⟩
    · exact hb.mono (by have := HC3.out.lt; omega)
    · exact hb
  have hrb3 := Lib.hid ((hb3.block _ (by omega)).trans ((Below.heap_setCell _ _ _ _ (by simp only; omega)).trans hrb.out))
  have hxb3 := Lib.hid ((hb3.block _ (by omega)).trans ((Below.heap_setCell _ _ _ _ (by simp only; omega)).trans hxb.out))
  have hmb3 := Lib.hid (show w3.heap[w.heap.size + 1]? = some (.cells #[.int .i64 ((n2 : Int) + 1), .int .i64 md, .int .i64 mk, .int .i64 ms, .int .i64 mf, .int .i64 mt, .int .i64 ma] 174 (0, 0)) from (hb3.block _ (by omega)).trans (heap_setCell_same w2 _ 0 _ _ _ hmb.out))
  have HB3 := Lib.hid (show Below w.heap.size w w3 from (bset HB2.out (p := ⟨w.heap.size + 1, 0, none⟩) (by simp only; omega) _).trans (hb3.mono (by omega)))
  have z3 := hb3.size
  simp only [World.setCell, Array.size_modify] at z3
  clear hb3 d2 m0 m1 m2 m3 m4 m5 m6 mf0 r0 r1 r2
  have x0 := cell_heap (i := 0) hxb3.out rfl
  have x1 := cell_heap (i := 1) hxb3.out rfl
  have x2 := cell_heap (i := 2) hxb3.out rfl
  have xf0 : w3.frozen? ⟨w.heap.size + 1 + 1, 0, none⟩ = false := frozen_of_row w3 _ _ _ _ hxb3.out
  have xf1 : w3.frozen? ⟨w.heap.size + 1 + 1, 1, none⟩ = false := frozen_of_row w3 _ _ _ _ hxb3.out
  have xf2 : w3.frozen? ⟨w.heap.size + 1 + 1, 2, none⟩ = false := frozen_of_row w3 _ _ _ _ hxb3.out
  rcases hd with ⟨hE, rfl, -⟩ | ⟨hE, rfl, ⟨v4, hC4⟩, -⟩
  · have g1 : (E != 0) = true := by simpa using hE
    have g2 : (E == 0) = false := by simpa using hE
    have hf2 := Lib.hid (show Q = ⟨[], [], []⟩ by rw [← HQ3.out, if_neg hE])
    go_wp2
    refine bodyPost_ret (v := .tuple #[.agg #[.slice none 0 0, .slice none 0 0, .slice none 0 0], .int .i64 E]) (by simp [results, Tryz.results243, go_sem, x0, x1, x2]) rfl (gave_nil hf2.out rfl ?_)
    exact bset3 HB3.out (by omega) _ _ _
  · subst hE
    have HC4 := Lib.hid hC4
    obtain ⟨av, cv, rfl⟩ := own_slice hC4.O
    clear hC4
    have y0 := cell_heap (i := 0) hrb3.out rfl
    have y1 := cell_heap (i := 1) hrb3.out rfl
    have y2 := cell_heap (i := 2) hrb3.out rfl
    have yf0 : w3.frozen? ⟨w.heap.size, 0, none⟩ = false := frozen_of_row w3 _ _ _ _ hrb3.out
    have yf1 : w3.frozen? ⟨w.heap.size, 1, none⟩ = false := frozen_of_row w3 _ _ _ _ hrb3.out
    have yf2 : w3.frozen? ⟨w.heap.size, 2, none⟩ = false := frozen_of_row w3 _ _ _ _ hrb3.out
    go_wp2_with fail
    refine (copy_any P _ _ _ R _ (HR.out.below HB3.out) hS hH hM).mono ?_
    rintro e w4 ⟨us, uh, um, rfl, hO4, hb4⟩
    obtain ⟨s1, t1, rfl⟩ := own_slice0 hO4.S
    obtain ⟨s2, t2, rfl⟩ := own_slice0 hO4.H
    obtain ⟨s3, t3, rfl⟩ := own_slice0 hO4.M
    have z4 := hb4.size
    obtain ⟨W5, hW5⟩ : ∃ W, W = ((w4.setCell ⟨w.heap.size, 0, none⟩ (.slice s1 R.secs.length t1)).setCell ⟨w.heap.size, 1, none⟩ (.slice s2 R.hs.length t2)).setCell ⟨w.heap.size, 2, none⟩ (.slice s3 R.ms.length t3) := ⟨_, rfl⟩
    have g45 : w4.grownBy W5 (some w.heap.size) := by rw [hW5]; exact grownBy_set3 ..
    have z5 : W5.heap.size = w4.heap.size := by rw [hW5]; simp [World.setCell]
    have hB4 := bup HB3.out hb4
    have hB5 : Below w.heap.size w W5 := by rw [hW5]; exact bset3 hB4 (Nat.le_refl _) _ _ _
    have hr4 := (hb4.block _ (by omega)).trans hrb3.out
    have hr5 : W5.heap[w.heap.size]? = some (.cells #[.slice s1 R.secs.length t1, .slice s2 R.hs.length t2, .slice s3 R.ms.length t3] 31 (0, 0)) := by
      have a0 := heap_setCell_same _ _ 0 _ _ (.slice s1 R.secs.length t1) hr4
      have a1 := heap_setCell_same _ _ 1 _ _ (.slice s2 R.hs.length t2) a0
      have a2 := heap_setCell_same _ _ 2 _ _ (.slice s3 R.ms.length t3) a1
      rw [hW5, a2]; rfl
    have hx5 := (g45.block _ (by omega) (by simp; omega)).trans ((hb4.block _ (by omega)).trans hxb3.out)
    have hm5 := (g45.block _ (by omega) (by simp)).trans ((hb4.block _ (by omega)).trans hmb3.out)
    have hC5 := HC4.out.below hb4
    have hcl := HC4.out.lt
    have oS5 := own_kept hO4.S g45 (by omega)
    have oM5 := own_kept hO4.M g45 (by omega)
    have oH5 := own_kept hC5.O g45 (by omega)
    have k1 : W5.cell? ⟨w1.heap.size + 1, 1, none⟩ = some (.slice av H2.length cv) := (World.cell?_of_block (a := ⟨w1.heap.size + 1, 1, none⟩) (g45.block _ (by simp only; omega) (by simp; omega))).trans hC5.h1
    obtain ⟨W6, hW6⟩ : ∃ W, W = (W5.alloc (.cells #[.int .i64 ((n2 : Int) + 1), .int .i64 md, .int .i64 mk, .int .i64 ms, .int .i64 mf, .int .i64 mt, .int .i64 ma] 174 (0, 0))).drew := ⟨_, rfl⟩
    have z6 : W6.heap.size = W5.heap.size + 1 := by rw [hW6]; simp
    have hn6 : ∀ j u, (encMv ⟨(n2 : Int) + 1, md, mk, ms, mf, mt, ma⟩)[j]? = some u → W6.cell? ((⟨W5.heap.size, 0, none⟩ : Addr).add j) = some u := by
      intro j u hj; rw [hW6, add_litZ, Nat.zero_add]; exact cell_whole (show (W5.alloc (.cells #[.int .i64 ((n2 : Int) + 1), .int .i64 md, .int .i64 mk, .int .i64 ms, .int .i64 mf, .int .i64 mt, .int .i64 ma] 174 (0, 0))).heap[W5.heap.size]? = _ from heap_alloc_new W5 _) hj
    have oM6 : W6.ownsRow w3.heap.size 174 7 (.slice s3 R.ms.length t3) R.ms.length (flatE encMv R.ms) := by rw [hW6]; exact (show (W5.alloc (.cells #[.int .i64 ((n2 : Int) + 1), .int .i64 md, .int .i64 mk, .int .i64 ms, .int .i64 mf, .int .i64 mt, .int .i64 ma] 174 (0, 0))).ownsRow w3.heap.size 174 7 (.slice s3 R.ms.length t3) R.ms.length (flatE encMv R.ms) from oM5.alloc _) --.ownsRow w3.heap.size 174 7 (.slice s3 R.ms.length t3) R.ms.length (flatE encMv R.ms) from oM5).alloc _
    obtain ⟨i1, hi, hz0, hz1, hz2⟩ := info_parts infoMv
    obtain ⟨v7, W7, hr7, own7, g67, -, hb7⟩ := run_append_own_at (P := Tryz.prog) W6 w3.heap.size 29 29 174 i1 (.agg #[.int .i64 0, .int .i64 0, .int .i64 0, .int .i64 0, .int .i64 0, .int .i64 0, .int .i64 0]) 7 56 Tryz.underlying29 hi hz0 hz1 hz2 rfl (by decide) _ _ _ oM6 ⟨W5.heap.size, 0, none⟩ 1 1 (encMv ⟨(n2 : Int) + 1, md, mk, ms, mf, mt, ma⟩) rfl hn6 (oneMv _) (by unfold maxLen; omega) (by omega) (by omega)
    obtain ⟨s7, t7, rfl⟩ := own_slice own7
    have z7 := g67.size
    have hob : (Value.slice s3 R.ms.length t3).ownBlock = none ∨ ∃ k, (Value.slice s3 R.ms.length t3).ownBlock = some k ∧ w3.heap.size ≤ k := by
      cases hv : (Value.slice s3 R.ms.length t3).ownBlock with
      | none => exact .inl rfl
      | some k => exact .inr ⟨k, rfl, (oM6.lt k hv).1⟩
    have hne : ∀ k, k < w3.heap.size → (Value.slice s3 R.ms.length t3).ownBlock ≠ some k := by
      intro k hk he
      rcases hob with h | ⟨b, h, hb⟩
      · rw [h] at he; cases he
      · rw [h] at he; cases he; omega
    have blk7 : ∀ k, k < w3.heap.size → W7.heap[k]? = W5.heap[k]? := by
      intro k hk
      rw [g67.block k (by omega) (hne k hk).symm, hW6]
      exact heap_alloc_old W5 _ (by omega)
    have hr7b := (blk7 _ (by omega)).trans hr5
    have hx7b := (blk7 _ (by omega)).trans hx5
    have cK : W7.cell? ⟨w1.heap.size + 1, 1, none⟩ = some (.slice av H2.length cv) := (World.cell?_of_block (a := ⟨w1.heap.size + 1, 1, none⟩) (blk7 _ (by simp only; omega))).trans k1
    have p0 := cell_heap (i := 0) hr4 rfl
    have p1 := cell_heap (i := 1) hr4 rfl
    have p2 := cell_heap (i := 2) hr4 rfl
    have pf0 : w4.frozen? ⟨w.heap.size, 0, none⟩ = false := frozen_of_row w4 _ _ _ _ hr4
    have pf1 : w4.frozen? ⟨w.heap.size, 1, none⟩ = false := frozen_of_row w4 _ _ _ _ hr4
    have pf2 : w4.frozen? ⟨w.heap.size, 2, none⟩ = false := frozen_of_row w4 _ _ _ _ hr4
    have HY := Lib.hid (And.intro hW5 (And.intro hW6 (And.intro hr7 (And.intro own7 (And.intro g67 (And.intro oS5 (And.intro oH5 hB5)))))))
    clear own7 g67 oS5 oH5 oM6 hB5 g45 hn6 hne hob hC5
    clear y0 y1 y2 yf0 yf1 yf2 x0 x1 x2 xf0 xf1 xf2
    clear hO4 hB4
    go_upto_region 12 with fail
    rw [← HY.out.1]
    have HK := Lib.hid k1
    have HFIN := Lib.hid (rmove_fin (o := (.cells #[.int .i64 ((n2 : Int) + 1), .int .i64 md, .int .i64 mk, .int .i64 ms, .int .i64 mf, .int .i64 mt, .int .i64 ma] 174 (0, 0))) hP HY.out.2.2.2.2.2.2.2 HY.out.2.1 HY.out.2.2.2.2.1 (B := w3.heap.size) (b1 := w1.heap.size + 1 + 1) (by omega) (by omega) (by omega) HY.out.2.2.2.2.2.1 HY.out.2.2.2.2.2.2.1 oM5 HY.out.2.2.2.1)
    have HQ4 := Lib.hid (show (⟨R.secs, H2, R.ms ++ [⟨(n2 : Int) + 1, md, mk, ms, mf, mt, ma⟩]⟩ : Reg) = Q by rw [← HQ3.out]; simp)
    have o70 := cell_heap (i := 0) hr7b rfl
    have e70 := cell_heap (i := 0) hx7b rfl
    have e71 := cell_heap (i := 1) hx7b rfl
    have e72 := cell_heap (i := 2) hx7b rfl
    have ef0 : W7.frozen? ⟨w.heap.size + 1 + 1, 0, none⟩ = false := frozen_of_row W7 _ _ _ _ hx7b
    have ef1 : W7.frozen? ⟨w.heap.size + 1 + 1, 1, none⟩ = false := frozen_of_row W7 _ _ _ _ hx7b
    have ef2 : W7.frozen? ⟨w.heap.size + 1 + 1, 2, none⟩ = false := frozen_of_row W7 _ _ _ _ hx7b
    have q0 := cell_heap (i := 0) hm5 rfl
    have q1 := cell_heap (i := 1) hm5 rfl
    have q2 := cell_heap (i := 2) hm5 rfl
    have q3 := cell_heap (i := 3) hm5 rfl
    have q4 := cell_heap (i := 4) hm5 rfl
    have q5 := cell_heap (i := 5) hm5 rfl
    have q6 := cell_heap (i := 6) hm5 rfl
    have o2 := cell_heap (i := 2) hr5 rfl
    have f71 : W7.frozen? ⟨w.heap.size, 1, none⟩ = false := frozen_of_row W7 _ _ _ _ hr7b
    have f72 : W7.frozen? ⟨w.heap.size, 2, none⟩ = false := frozen_of_row W7 _ _ _ _ hr7b
    have o71 := cell_heap (i := 1) hr7b rfl
    have o72 := cell_heap (i := 2) hr7b rfl
    have c6 : (W5.alloc (.cells #[.int .i64 ((n2 : Int) + 1), .int .i64 md, .int .i64 mk, .int .i64 ms, .int .i64 mf, .int .i64 mt, .int .i64 ma] 174 (0, 0))).cell? ⟨w1.heap.size + 1, 1, none⟩ = some (.slice av H2.length cv) := keepA (w := W5) k1
    have o62 : (W5.alloc (.cells #[.int .i64 ((n2 : Int) + 1), .int .i64 md, .int .i64 mk, .int .i64 ms, .int .i64 mf, .int .i64 mt, .int .i64 ma] 174 (0, 0))).cell? ⟨w.heap.size, 2, none⟩ = some (.slice s3 R.ms.length t3) := keepA (w := W5) o2
    have hrun : (Builtin.append_ #[29, 29] 29 #[.slice s3 R.ms.length t3, .slice (some ⟨W5.heap.size, 0, none⟩) 1 1]).run Tryz.prog (W5.alloc (.cells #[.int .i64 ((n2 : Int) + 1), .int .i64 md, .int .i64 mk, .int .i64 ms, .int .i64 mf, .int .i64 mt, .int .i64 ma] 174 (0, 0))).drew = .ok (.slice s7 (R.ms.length + 1) t7) W7 := by have := HY.out.2.2.1; rw [HY.out.2.1] at this; exact this
    have HRUN := Lib.hid hrun
    have HZ := Lib.hid (And.intro z4 (And.intro z5 (And.intro z6 z7)))
    clear hrun hr7 hW5 hW6 z4 z5 z6 z7 hr4 hr5 hx5 hm5 p0 p1 p2 pf0 pf1 pf2 k1 hb4 hb7 blk7
    have k1 := HK.out
    rename_i K hK
    go_region_law (refine step_append_runZ rfl (.tmp 46) (.tmp 48) 29 29 rfl (.slice s3 R.ms.length t3) (.slice (some ⟨W5.heap.size, 0, none⟩) 1 1) (by simp [Act.eval, Act.put]) (by simp [Act.eval, Act.put]) HRUN.out ?_)
    all_goals (refine hK _ _ ?_; go_wp2; refine bodyPost_ret (v := .tuple #[.agg #[.slice s1 R.secs.length t1, .slice av H2.length cv, .slice s7 (R.ms.length + 1) t7], .int .i64 0]) (by simp [results, Tryz.results243, go_sem, e70, e71, e72]) rfl ?_; rw [← HQ4.out]; exact HFIN.out)
theorem rmove_any (P : Nat → Prop) (vs vh vm : Value) (R : Reg) (m : Mv) (w : World) (hr : RgIn P w vs vh vm R) (hS : R.secs.length ≤ 1000000) (hH : R.hs.length ≤ 1000000) (hM : R.ms.length ≤ 1000000) (hP : ∀ b, w.heap.size ≤ b → P b) :
    Calls Tryz.prog 243 #[.agg #[vs, vh, vm], .agg #[.int .i64 m.num, .int .i64 m.day, .int .i64 m.kind, .int .i64 m.s, .int .i64 m.f, .int .i64 m.t, .int .i64 m.a]] w (GaveR P (rmR R m) (rmE R m) w) := by
  by_cases hx : chkE R = 0
  · by_cases hy : R.ms.length = 400
    · exact rmove_full P vs vh vm R _ _ _ _ _ _ _ w hr hS hH hM hP hx hy
    · exact rmove_go P vs vh vm R _ _ _ _ _ _ _ w hr hS hH hM hP hx hy
  · exact rmove_bad P vs vh vm R _ _ _ _ _ _ _ w hr hS hH hM hP hx
end Go.Proofs.YthjaofgdickkaaaGreat
