/- The contract of Src.Security. -/
import Derived.Test.YtkbkohkhpmpddaaSrc
import Derived.Deep.RegionHeld3
namespace Go.Proofs.Ytkbkohkhpmpddaa
open Go.RowKit
set_option linter.unusedVariables false

/-- a security that Src.Security may give -/
structure SecLike (un is ma ra ev : Int) : Prop where
  hun : un ∈ ([1, 10, 100] : List Int)
  his : is ∈ ([0, 30, 90, 100] : List Int)
  hra : ra ∈ ([0, 1000, 2500, 5000] : List Int)
  hev : ev ∈ ([0, 1, 3, 6, 12] : List Int)
  hz : ev = 0 → ra = 0
  hma : ∃ k : Int, 1 ≤ k ∧ k ≤ 5 ∧ ma = is + 30 * (max ev 1) * k
/-- what Src.Security leaves -/
def Secured (sb : Nat) (id : Int) (w : World) (e : Ending) (w' : World) : Prop :=
  ∃ un is ma ra ev : Int, ∃ ix : Bool, SecLike un is ma ra ev ∧ e = .returned (.agg #[.int .i64 id, .int .i64 un, .int .i64 is, .int .i64 ma, .int .i64 ra, .int .i64 ev, .bool ix]) ∧ SrcOk w' sb ∧ w.grownBy w' (some sb)

/-- behind a step of the source, and writes from a block on -/
theorem src_end {w w5 w7 W : World} {O O2 : Obj} {sb : Nat} (h5 : (w.alloc O).grownBy w5 (some sb)) (h7 : (w5.alloc O2).grownBy w7 (some sb)) (hS : SrcOk w7 sb) (hb : Below w.heap.size w7 W) (hlt : sb < w.heap.size) : SrcOk W sb ∧ w.grownBy W (some sb) := by
  have g5 : w.grownBy w5 (some sb) := grownBy_trans (World.grownBy_alloc w O _) h5
  have g7 : w.grownBy w7 (some sb) := grownBy_trans g5 (grownBy_trans (World.grownBy_alloc w5 O2 _) h7)
  exact ⟨srcOk_below hS hb hlt, hb.os.trans g7.os, hb.tape.trans g7.tape, hb.output.trans g7.output, Nat.le_trans g7.size hb.size, fun k hk hne => (hb.block k hk).trans (g7.block k hk hne)⟩
theorem below_set7 (w : World) (B : Nat) (v0 v1 v2 v3 v4 v5 v6 : Value) : Below B w (((((((w.setCell ⟨B, 0, none⟩ v0).setCell ⟨B, 1, none⟩ v1).setCell ⟨B, 2, none⟩ v2).setCell ⟨B, 3, none⟩ v3).setCell ⟨B, 4, none⟩ v4).setCell ⟨B, 5, none⟩ v5).setCell ⟨B, 6, none⟩ v6) :=
  (((((((Below.refl B w).setCell (Nat.le_refl _) _).setCell (Nat.le_refl _) _).setCell (Nat.le_refl _) _).setCell (Nat.le_refl _) _).setCell (Nat.le_refl _) _).setCell (Nat.le_refl _) _).setCell (Nat.le_refl _) _
theorem keep_cell {w5 w7 : World} {O : Obj} {sb b i : Nat} {v : Value} (h7 : (w5.alloc O).grownBy w7 (some sb)) (h : w5.cell? ⟨b, i, none⟩ = some v) (hb : b ≠ sb) : w7.cell? ⟨b, i, none⟩ = some v :=
  h7.cell ((World.cell?_alloc_past _ _ _ (World.block_lt_of_cell? w5 _ h)).trans h) (by simpa using hb)
theorem keep_frozen {w5 w7 : World} {O : Obj} {sb b i : Nat} (h7 : (w5.alloc O).grownBy w7 (some sb)) (hlt : b < w5.heap.size) (h : w5.frozen? ⟨b, i, none⟩ = false) (hb : b ≠ sb) : w7.frozen? ⟨b, i, none⟩ = false := by
  have e := h7.block b (by simp; omega) (by simpa using hb)
  rw [Below.heap_alloc _ _ _ hlt] at e
  exact (World.frozen?_of_block (a := ⟨b, i, none⟩) e).trans h
theorem secured_mk {sb : Nat} {id : Int} {w w5 w7 : World} {O O2 : Obj} {un is ma ra ev : Int} {ix : Bool} {M v0 v1 v2 v3 v4 v5 v6 : Value} (hl : SecLike un is ma ra ev) (hS : SrcOk w7 sb) (hlt : sb < w.heap.size) (h5 : (w.alloc O).grownBy w5 (some sb)) (h7 : (w5.alloc O2).grownBy w7 (some sb)) :
    Secured sb id w (.returned (.agg #[.int .i64 id, .int .i64 un, .int .i64 is, .int .i64 ma, .int .i64 ra, .int .i64 ev, .bool ix])) ((((((((w7.setCell ⟨w5.heap.size, 3, none⟩ M).setCell ⟨w.heap.size, 0, none⟩ v0).setCell ⟨w.heap.size, 1, none⟩ v1).setCell ⟨w.heap.size, 2, none⟩ v2).setCell ⟨w.heap.size, 3, none⟩ v3).setCell ⟨w.heap.size, 4, none⟩ v4).setCell ⟨w.heap.size, 5, none⟩ v5).setCell ⟨w.heap.size, 6, none⟩ v6) := by
  have z := h5.size
  simp only [World.size_alloc] at z
  have e := src_end h5 h7 hS (((Below.refl w.heap.size w7).setCell (p := ⟨w5.heap.size, 3, none⟩) (by show w.heap.size ≤ w5.heap.size; omega) M).trans (below_set7 _ _ v0 v1 v2 v3 v4 v5 v6)) hlt
  exact ⟨un, is, ma, ra, ev, ix, hl, rfl, e.1, e.2⟩
theorem grownBy_undrew {w w' : World} {row : Option Nat} (h : w.drew.grownBy w' row) : w.grownBy w' row := ⟨h.os, h.tape, h.output, h.size, h.block⟩
set_option maxHeartbeats 1000000 in
theorem srcsec_any (sb : Nat) (id : Int) (w : World) (hs : SrcOk w sb) : Calls Try.prog 15 #[.pointer (some ⟨sb, 0, none⟩), .int .i64 id] w (Secured sb id w) := by
  have hlt := srcOk_lt hs
  go_enter Try.func15, Try.ntmps15
  go_wp2_with fail
  refine (pick_lit sb [1, 10, 100] _ _ _ _ (srcOk_alloc hs _) (by decide) (by decide) rfl rfl (by simp)).mono ?_
  rintro e w1 ⟨un, hun, rfl, hS1, hG1⟩
  go_wp2_with fail
  refine (pick_lit sb [0, 30, 90, 100] _ _ _ _ hS1 (by decide) (by decide) rfl rfl rfl).mono ?_
  rintro e w2 ⟨is, his, rfl, hS2, hG2⟩
  have i0 : 0 ≤ is ∧ is ≤ 100 := by simp at his; omega
  go_wp2_with fail
  refine (pick_lit sb [0, 1000, 2500, 5000] _ _ _ _ hS2 (by decide) (by decide) rfl rfl rfl).mono ?_
  rintro e w3 ⟨ra, hra, rfl, hS3, hG3⟩
  go_wp2_with fail
  refine (pick_lit sb [0, 1, 3, 6, 12] _ _ _ _ hS3 (by decide) (by decide) rfl rfl rfl).mono ?_
  rintro e w4 ⟨ev, hev, rfl, hS4, hG4⟩
  have v0 : 0 ≤ ev ∧ ev ≤ 12 := by simp at hev; omega
  go_wp2_with fail
  refine (n_any sb _ _ hS4 (by omega)).mono ?_
  rintro e w5 ⟨q, hq, rfl, hS5, hG5⟩
  have g : World.grownBy _ w5 (some sb) := grownBy_trans hG1 (grownBy_trans hG2 (grownBy_trans hG3 (grownBy_trans hG4 hG5)))
  have z := g.size
  simp only [World.size_alloc] at z
  have HG := Lib.hid g
  have HH := Lib.hid (And.intro hun (And.intro his (And.intro hra hev)))
  have k0 : w5.cell? ⟨w.heap.size, 0, none⟩ = some (.int .i64 0) := box_cell g hlt 0 rfl
  have k1 : w5.cell? ⟨w.heap.size, 1, none⟩ = some (.int .i64 0) := box_cell g hlt 1 rfl
  have k2 : w5.cell? ⟨w.heap.size, 2, none⟩ = some (.int .i64 0) := box_cell g hlt 2 rfl
  have k3 : w5.cell? ⟨w.heap.size, 3, none⟩ = some (.int .i64 0) := box_cell g hlt 3 rfl
  have k4 : w5.cell? ⟨w.heap.size, 4, none⟩ = some (.int .i64 0) := box_cell g hlt 4 rfl
  have k5 : w5.cell? ⟨w.heap.size, 5, none⟩ = some (.int .i64 0) := box_cell g hlt 5 rfl
  have k6 : w5.cell? ⟨w.heap.size, 6, none⟩ = some (.bool false) := box_cell g hlt 6 rfl
  have kf := box_frozen g hlt
  clear hG1 hG2 hG3 hG4 hG5 g hun his hra hev hS1 hS2 hS3 hS4 hq
  go_wp2_with fail
  · have e0 : ev = 0 := by simpa using (by assumption : (ev == 0) = true)
    subst e0
    have hl5 := srcOk_lt hS5
    go_region_held3 (fun w' => w'.cell? ⟨w5.heap.size, 2, none⟩ = some (.int .i64 is) ∧ w'.cell? ⟨w5.heap.size, 5, none⟩ = some (.int .i64 0)) (first | exact ⟨box_cell hG7 hl5 2 rfl, box_cell hG7 hl5 5 rfl⟩ | exact ⟨(World.cell?_setCell_other _ _ _ _ (by simp)).trans (box_cell hG7 hl5 2 rfl), (World.cell?_setCell_other _ _ _ _ (by simp)).trans (box_cell hG7 hl5 5 rfl)⟩ | go_keep)
      (first | (go_at_call 22; refine (range_any sb 1 5 _ ?_ (by decide) (by decide) (by decide)).mono ?_; exact srcOk_drewN (srcOk_alloc hS5 _) 1; rintro e w7 ⟨k, ⟨j0, j1⟩, rfl, hS7, hG7'⟩; have hG7 := grownBy_undrew hG7'; have c3 := box_cell hG7 hl5 3 rfl; have f3 := box_frozen hG7 hl5 3))
    all_goals
      have c0 := box_cell hG7 hl5 0 rfl
      have c1 := box_cell hG7 hl5 1 rfl
      have c2 := box_cell hG7 hl5 2 rfl
      have c4 := box_cell hG7 hl5 4 rfl
      have c5 := box_cell hG7 hl5 5 rfl
      have c6 := box_cell hG7 hl5 6 rfl
      have r0 := keep_cell hG7 k0 (by omega)
      have r1 := keep_cell hG7 k1 (by omega)
      have r2 := keep_cell hG7 k2 (by omega)
      have r3 := keep_cell hG7 k3 (by omega)
      have r4 := keep_cell hG7 k4 (by omega)
      have r5 := keep_cell hG7 k5 (by omega)
      have r6 := keep_cell hG7 k6 (by omega)
      have rf : ∀ o, w7.frozen? ⟨w.heap.size, o, none⟩ = false := fun o => keep_frozen hG7 (by omega) (kf o) (by omega)
      have u1 : IntKind.i64.wrap 30 = 30 := IntWalk.i64_in _ (by omega)
      have u2 : IntKind.i64.wrap (30 * k) = 30 * k := IntWalk.i64_in _ (by omega)
      have u3 : IntKind.i64.wrap (is + 30 * k) = is + 30 * k := IntWalk.i64_in _ (by omega)
      rw [u1, u2, u3]
      clear u1 u2 u3
      have HL := Lib.hid (show SecLike un is (is + 30 * k) 0 0 from ⟨HH.out.1, HH.out.2.1, by simp, HH.out.2.2.2, fun _ => rfl, ⟨k, j0, j1, by rw [show (max (0 : Int) 1) = 1 from rfl]; omega⟩⟩)
      go_wp2
      exact bodyPost_ret (v := .agg #[.int .i64 id, .int .i64 un, .int .i64 is, .int .i64 (is + 30 * k), .int .i64 0, .int .i64 0, .bool (q == 1)]) (by simp [results, Try.results15, go_sem, r0, r1, r2, r3, r4, r5, r6]) rfl (secured_mk HL.out hS7 hlt HG.out hG7)
  · have e0 : ev ≠ 0 := by simpa using (by assumption : (ev == 0) = false)
    have e1 : 1 ≤ ev := by omega
    clear e0
    have hl5 := srcOk_lt hS5
    go_region_held3 (fun w' => w'.cell? ⟨w5.heap.size, 2, none⟩ = some (.int .i64 is) ∧ w'.cell? ⟨w5.heap.size, 5, none⟩ = some (.int .i64 ev)) (first | exact ⟨box_cell hG7 hl5 2 rfl, box_cell hG7 hl5 5 rfl⟩ | exact ⟨(World.cell?_setCell_other _ _ _ _ (by simp)).trans (box_cell hG7 hl5 2 rfl), (World.cell?_setCell_other _ _ _ _ (by simp)).trans (box_cell hG7 hl5 5 rfl)⟩ | go_keep)
      (first | (go_at_call 22; refine (range_any sb 1 5 _ ?_ (by decide) (by decide) (by decide)).mono ?_; exact srcOk_drewN (srcOk_alloc hS5 _) 1; rintro e w7 ⟨k, ⟨j0, j1⟩, rfl, hS7, hG7'⟩; have hG7 := grownBy_undrew hG7'; have c3 := box_cell hG7 hl5 3 rfl; have f3 := box_frozen hG7 hl5 3))
    all_goals
      have c0 := box_cell hG7 hl5 0 rfl
      have c1 := box_cell hG7 hl5 1 rfl
      have c2 := box_cell hG7 hl5 2 rfl
      have c4 := box_cell hG7 hl5 4 rfl
      have c5 := box_cell hG7 hl5 5 rfl
      have c6 := box_cell hG7 hl5 6 rfl
      have r0 := keep_cell hG7 k0 (by omega)
      have r1 := keep_cell hG7 k1 (by omega)
      have r2 := keep_cell hG7 k2 (by omega)
      have r3 := keep_cell hG7 k3 (by omega)
      have r4 := keep_cell hG7 k4 (by omega)
      have r5 := keep_cell hG7 k5 (by omega)
      have r6 := keep_cell hG7 k6 (by omega)
      have rf : ∀ o, w7.frozen? ⟨w.heap.size, o, none⟩ = false := fun o => keep_frozen hG7 (by omega) (kf o) (by omega)
      have pb := mul_bd (show 0 ≤ 30 * ev by omega) (show 30 * ev ≤ 360 by omega) (show 0 ≤ k by omega) j1
      obtain ⟨pb0, pb1⟩ := pb
      have u1 : IntKind.i64.wrap (30 * ev) = 30 * ev := IntWalk.i64_in _ (by omega)
      have u2 : IntKind.i64.wrap (30 * ev * k) = 30 * ev * k := IntWalk.i64_in _ (by omega)
      have u3 : IntKind.i64.wrap (is + 30 * ev * k) = is + 30 * ev * k := IntWalk.i64_in _ (by omega)
      try rw [show (if ev < 1 then (1 : Int) else ev) = ev from if_neg (by omega)]
      rw [u1, u2, u3]
      clear u1 u2 u3
      have HL := Lib.hid (show SecLike un is (is + 30 * ev * k) ra ev from ⟨HH.out.1, HH.out.2.1, HH.out.2.2.1, HH.out.2.2.2, fun h => by omega, ⟨k, j0, j1, by rw [Int.max_eq_left e1]⟩⟩)
      go_wp2
      exact bodyPost_ret (v := .agg #[.int .i64 id, .int .i64 un, .int .i64 is, .int .i64 (is + 30 * ev * k), .int .i64 ra, .int .i64 ev, .bool (q == 1)]) (by simp [results, Try.results15, go_sem, r0, r1, r2, r3, r4, r5, r6]) rfl (secured_mk HL.out hS7 hlt HG.out hG7)
end Go.Proofs.Ytkbkohkhpmpddaa
