/- register: Issue, Transfer, Redeem. -/
import Derived.Test.YthjaofgdickkaaaGreatRegM
namespace Go.Proofs.YthjaofgdickkaaaGreat
open Go.RowKit
set_option linter.unusedVariables false
set_option linter.unusedSimpArgs false
theorem GaveR.shape {P : Nat → Prop} {R : Reg} {E : Int} {w : World} {e : Ending} {w' : World} (h : GaveR P R E w e w') :
    ∃ a0 n0 c0 a1 n1 c1 a2 n2 c2, e = .returned (.tuple #[.agg #[.slice a0 n0 c0, .slice a1 n1 c1, .slice a2 n2 c2], .int .i64 E]) ∧ RgIn P w' (.slice a0 n0 c0) (.slice a1 n1 c1) (.slice a2 n2 c2) R ∧ Below w.heap.size w w' := by
  obtain ⟨vs, vh, vm, rfl, hr, hb⟩ := h
  obtain ⟨a0, n0, c0, rfl, -, -, -⟩ := hr.S.shape
  obtain ⟨a1, n1, c1, rfl, -, -, -⟩ := hr.H.shape
  obtain ⟨a2, n2, c2, rfl, -, -, -⟩ := hr.M.shape
  exact ⟨_, _, _, _, _, _, _, _, _, rfl, hr, hb⟩
/-- a register stays where three cells of a block that is none of its own are stored to -/
theorem RgIn.set3 {P : Nat → Prop} {w : World} {vs vh vm : Value} {R : Reg} {b : Nat} {v0 v1 v2 : Value} (h : RgIn P w vs vh vm R) (hp : ∀ k, P k → k ≠ b) : RgIn P (((w.setCell ⟨b, 0, none⟩ v0).setCell ⟨b, 1, none⟩ v1).setCell ⟨b, 2, none⟩ v2) vs vh vm R := h.grown (grownBy_set3 w b v0 v1 v2) hp
set_option maxHeartbeats 4000000 in
set_option maxRecDepth 100000 in
theorem rIssue_any (P : Nat → Prop) (vs vh vm : Value) (R : Reg) (day s t a : Int) (w : World) (hr : RgIn P w vs vh vm R) (hS : R.secs.length ≤ 1000000) (hH : R.hs.length ≤ 1000000) (hM : R.ms.length ≤ 1000000) (hP : ∀ b, w.heap.size + 2 ≤ b → P b) :
    Calls Tryz.prog 214 #[.agg #[vs, vh, vm], .int .i64 day, .int .i64 s, .int .i64 t, .int .i64 a] w (GaveR P (rmR R ⟨0, day, 1, s, 0, t, a⟩) (rmE R ⟨0, day, 1, s, 0, t, a⟩) w) := by
  obtain ⟨a0, n0, c0, rfl, -, -, -⟩ := hr.S.shape
  obtain ⟨a1, n1, c1, rfl, -, -, -⟩ := hr.H.shape
  obtain ⟨a2, n2, c2, rfl, -, -, -⟩ := hr.M.shape
  have hb0 : ∀ b, b < w.heap.size ∨ w.heap.size + 2 ≤ b → b ≠ w.heap.size + 1 := fun b h => by omega
  have hr0 := hr.mono (Q := fun b => (P b ∧ b < w.heap.size) ∨ w.heap.size + 2 ≤ b) (fun b h hl => .inl ⟨h, hl⟩)
  have HC := Lib.hid (fun W hW hz => rmove_any (fun b => (P b ∧ b < w.heap.size) ∨ w.heap.size + 2 ≤ b) _ _ _ R ⟨0, day, 1, s, 0, t, a⟩ W (hr0.below (w' := W) hW) hS hH hM hz)
  clear hr hr0
  obtain ⟨E, hE⟩ : ∃ E, rmE R ⟨0, day, 1, s, 0, t, a⟩ = E := ⟨_, rfl⟩
  obtain ⟨Q, hQ⟩ : ∃ Q, rmR R ⟨0, day, 1, s, 0, t, a⟩ = Q := ⟨_, rfl⟩
  rw [hE, hQ] at HC
  rw [hE, hQ]
  clear hE hQ hS hH hM
  go_enter Tryz.func214, Tryz.ntmps214
  go_wp2_with fail
  refine (HC.out _ (bal (bal brefl _) _) (fun b hb => .inr (by simpa using hb))).mono ?_
  rintro e w1 hg
  obtain ⟨b0, m0, d0, b1, m1, d1, b2, m2, d2, rfl, hq, hb1⟩ := hg.shape
  clear hg
  have HB := Lib.hid (bup (bal (bal brefl _) _) hb1)
  have hx := (hb1.block (w.heap.size + 1) (by simp)).trans (heap_at (w := (w.alloc (.cells #[.slice a0 n0 c0, .slice a1 n1 c1, .slice a2 n2 c2] 31 (0, 0)))) (o := (.cells #[.slice none 0 0, .slice none 0 0, .slice none 0 0] 31 (0, 0))) (by simp))
  have x0 := cell_heap (i := 0) hx rfl
  have x1 := cell_heap (i := 1) hx rfl
  have x2 := cell_heap (i := 2) hx rfl
  have xf0 : w1.frozen? ⟨w.heap.size + 1, 0, none⟩ = false := frozen_of_row w1 _ _ _ _ hx
  have xf1 : w1.frozen? ⟨w.heap.size + 1, 1, none⟩ = false := frozen_of_row w1 _ _ _ _ hx
  have xf2 : w1.frozen? ⟨w.heap.size + 1, 2, none⟩ = false := frozen_of_row w1 _ _ _ _ hx
  have HQ := Lib.hid hq
  clear hq hb1 hx
  go_wp2
  refine bodyPost_ret (v := .tuple #[.agg #[.slice b0 m0 d0, .slice b1 m1 d1, .slice b2 m2 d2], .int .i64 E]) (by simp [results, Tryz.results214, go_sem, x0, x1, x2]) rfl ⟨_, _, _, rfl, ?_, bset3 HB.out (by omega) _ _ _⟩
  exact (HQ.out.set3 (fun k hk => hb0 k (hk.imp (fun h => h.2) id))).mono (fun b h _ => h.elim (fun h => h.1) (hP b))
set_option maxHeartbeats 4000000 in
set_option maxRecDepth 100000 in
theorem rTransfer_any (P : Nat → Prop) (vs vh vm : Value) (R : Reg) (day s f t a : Int) (w : World) (hr : RgIn P w vs vh vm R) (hS : R.secs.length ≤ 1000000) (hH : R.hs.length ≤ 1000000) (hM : R.ms.length ≤ 1000000) (hP : ∀ b, w.heap.size + 2 ≤ b → P b) :
    Calls Tryz.prog 150 #[.agg #[vs, vh, vm], .int .i64 day, .int .i64 s, .int .i64 f, .int .i64 t, .int .i64 a] w (GaveR P (rmR R ⟨0, day, 2, s, f, t, a⟩) (rmE R ⟨0, day, 2, s, f, t, a⟩) w) := by
  obtain ⟨a0, n0, c0, rfl, -, -, -⟩ := hr.S.shape
  obtain ⟨a1, n1, c1, rfl, -, -, -⟩ := hr.H.shape
  obtain ⟨a2, n2, c2, rfl, -, -, -⟩ := hr.M.shape
  have hb0 : ∀ b, b < w.heap.size ∨ w.heap.size + 2 ≤ b → b ≠ w.heap.size + 1 := fun b h => by omega
  have hr0 := hr.mono (Q := fun b => (P b ∧ b < w.heap.size) ∨ w.heap.size + 2 ≤ b) (fun b h hl => .inl ⟨h, hl⟩)
  have HC := Lib.hid (fun W hW hz => rmove_any (fun b => (P b ∧ b < w.heap.size) ∨ w.heap.size + 2 ≤ b) _ _ _ R ⟨0, day, 2, s, f, t, a⟩ W (hr0.below (w' := W) hW) hS hH hM hz)
  clear hr hr0
  obtain ⟨E, hE⟩ : ∃ E, rmE R ⟨0, day, 2, s, f, t, a⟩ = E := ⟨_, rfl⟩
  obtain ⟨Q, hQ⟩ : ∃ Q, rmR R ⟨0, day, 2, s, f, t, a⟩ = Q := ⟨_, rfl⟩
  rw [hE, hQ] at HC
  rw [hE, hQ]
  clear hE hQ hS hH hM
  go_enter Tryz.func150, Tryz.ntmps150
  go_wp2_with fail
  refine (HC.out _ (bal (bal brefl _) _) (fun b hb => .inr (by simpa using hb))).mono ?_
  rintro e w1 hg
  obtain ⟨b0, m0, d0, b1, m1, d1, b2, m2, d2, rfl, hq, hb1⟩ := hg.shape
  clear hg
  have HB := Lib.hid (bup (bal (bal brefl _) _) hb1)
  have hx := (hb1.block (w.heap.size + 1) (by simp)).trans (heap_at (w := (w.alloc (.cells #[.slice a0 n0 c0, .slice a1 n1 c1, .slice a2 n2 c2] 31 (0, 0)))) (o := (.cells #[.slice none 0 0, .slice none 0 0, .slice none 0 0] 31 (0, 0))) (by simp))
  have x0 := cell_heap (i := 0) hx rfl
  have x1 := cell_heap (i := 1) hx rfl
  have x2 := cell_heap (i := 2) hx rfl
  have xf0 : w1.frozen? ⟨w.heap.size + 1, 0, none⟩ = false := frozen_of_row w1 _ _ _ _ hx
  have xf1 : w1.frozen? ⟨w.heap.size + 1, 1, none⟩ = false := frozen_of_row w1 _ _ _ _ hx
  have xf2 : w1.frozen? ⟨w.heap.size + 1, 2, none⟩ = false := frozen_of_row w1 _ _ _ _ hx
  have HQ := Lib.hid hq
  clear hq hb1 hx
  go_wp2
  refine bodyPost_ret (v := .tuple #[.agg #[.slice b0 m0 d0, .slice b1 m1 d1, .slice b2 m2 d2], .int .i64 E]) (by simp [results, Tryz.results150, go_sem, x0, x1, x2]) rfl ⟨_, _, _, rfl, ?_, bset3 HB.out (by omega) _ _ _⟩
  exact (HQ.out.set3 (fun k hk => hb0 k (hk.imp (fun h => h.2) id))).mono (fun b h _ => h.elim (fun h => h.1) (hP b))
set_option maxHeartbeats 4000000 in
set_option maxRecDepth 100000 in
theorem rRedeem_any (P : Nat → Prop) (vs vh vm : Value) (R : Reg) (day s f a : Int) (w : World) (hr : RgIn P w vs vh vm R) (hS : R.secs.length ≤ 1000000) (hH : R.hs.length ≤ 1000000) (hM : R.ms.length ≤ 1000000) (hP : ∀ b, w.heap.size + 2 ≤ b → P b) :
    Calls Tryz.prog 171 #[.agg #[vs, vh, vm], .int .i64 day, .int .i64 s, .int .i64 f, .int .i64 a] w (GaveR P (rmR R ⟨0, day, 3, s, f, 0, a⟩) (rmE R ⟨0, day, 3, s, f, 0, a⟩) w) := by
  obtain ⟨a0, n0, c0, rfl, -, -, -⟩ := hr.S.shape
  obtain ⟨a1, n1, c1, rfl, -, -, -⟩ := hr.H.shape
  obtain ⟨a2, n2, c2, rfl, -, -, -⟩ := hr.M.shape
  have hb0 : ∀ b, b < w.heap.size ∨ w.heap.size + 2 ≤ b → b ≠ w.heap.size + 1 := fun b h => by omega
  have hr0 := hr.mono (Q := fun b => (P b ∧ b < w.heap.size) ∨ w.heap.size + 2 ≤ b) (fun b h hl => .inl ⟨h, hl⟩)
  have HC := Lib.hid (fun W hW hz => rmove_any (fun b => (P b ∧ b < w.heap.size) ∨ w.heap.size + 2 ≤ b) _ _ _ R ⟨0, day, 3, s, f, 0, a⟩ W (hr0.below (w' := W) hW) hS hH hM hz)
  clear hr hr0
  obtain ⟨E, hE⟩ : ∃ E, rmE R ⟨0, day, 3, s, f, 0, a⟩ = E := ⟨_, rfl⟩
  obtain ⟨Q, hQ⟩ : ∃ Q, rmR R ⟨0, day, 3, s, f, 0, a⟩ = Q := ⟨_, rfl⟩
  rw [hE, hQ] at HC
  rw [hE, hQ]
  clear hE hQ hS hH hM
  go_enter Tryz.func171, Tryz.ntmps171
  go_wp2_with fail
  refine (HC.out _ (bal (bal brefl _) _) (fun b hb => .inr (by simpa using hb))).mono ?_
  rintro e w1 hg
  obtain ⟨b0, m0, d0, b1, m1, d1, b2, m2, d2, rfl, hq, hb1⟩ := hg.shape
  clear hg
  have HB := Lib.hid (bup (bal (bal brefl _) _) hb1)
  have hx := (hb1.block (w.heap.size + 1) (by simp)).trans (heap_at (w := (w.alloc (.cells #[.slice a0 n0 c0, .slice a1 n1 c1, .slice a2 n2 c2] 31 (0, 0)))) (o := (.cells #[.slice none 0 0, .slice none 0 0, .slice none 0 0] 31 (0, 0))) (by simp))
  have x0 := cell_heap (i := 0) hx rfl
  have x1 := cell_heap (i := 1) hx rfl
  have x2 := cell_heap (i := 2) hx rfl
  have xf0 : w1.frozen? ⟨w.heap.size + 1, 0, none⟩ = false := frozen_of_row w1 _ _ _ _ hx
  have xf1 : w1.frozen? ⟨w.heap.size + 1, 1, none⟩ = false := frozen_of_row w1 _ _ _ _ hx
  have xf2 : w1.frozen? ⟨w.heap.size + 1, 2, none⟩ = false := frozen_of_row w1 _ _ _ _ hx
  have HQ := Lib.hid hq
  clear hq hb1 hx
  go_wp2
  refine bodyPost_ret (v := .tuple #[.agg #[.slice b0 m0 d0, .slice b1 m1 d1, .slice b2 m2 d2], .int .i64 E]) (by simp [results, Tryz.results171, go_sem, x0, x1, x2]) rfl ⟨_, _, _, rfl, ?_, bset3 HB.out (by omega) _ _ _⟩
  exact (HQ.out.set3 (fun k hk => hb0 k (hk.imp (fun h => h.2) id))).mono (fun b h _ => h.elim (fun h => h.1) (hP b))
end Go.Proofs.YthjaofgdickkaaaGreat
