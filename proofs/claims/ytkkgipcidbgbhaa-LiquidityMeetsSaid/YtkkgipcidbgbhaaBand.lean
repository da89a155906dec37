/- The contract of Src.Band. -/
import Derived.Test.YtkkgipcidbgbhaaSrc
namespace Go.Proofs.Ytkkgipcidbgbhaa
open Go.RowKit
set_option linter.unusedVariables false

/-- a band that Band may give -/
structure BandLike (lo hi lot mr mp : Int) : Prop where
  hlo : lo ∈ ([-50, 0, 0, 20] : List Int)
  hhi : hi - lo ∈ ([0, 3, 10, 100] : List Int)
  hlot : lot ∈ ([1, 4, 10, 25] : List Int)
  hmr : mr ∈ ([0, 40, 500, 1000] : List Int)
  hmp : mp ∈ ([0, 40, 500, 1000] : List Int)
/-- what Band leaves -/
def Banded (sb : Nat) (w : World) (e : Ending) (w' : World) : Prop :=
  ∃ lo hi lot mr mp : Int, BandLike lo hi lot mr mp ∧ e = .returned (.agg #[.int .i64 lo, .int .i64 hi, .int .i64 lot, .int .i64 mr, .int .i64 mp]) ∧ SrcOk w' sb ∧ w.grownBy w' (some sb)

theorem below_set5 (w : World) (B : Nat) (v0 v1 v2 v3 v4 : Value) : Below B w (((((w.setCell ⟨B, 0, none⟩ v0).setCell ⟨B, 1, none⟩ v1).setCell ⟨B, 2, none⟩ v2).setCell ⟨B, 3, none⟩ v3).setCell ⟨B, 4, none⟩ v4) :=
  (((((Below.refl B w).setCell (Nat.le_refl _) _).setCell (Nat.le_refl _) _).setCell (Nat.le_refl _) _).setCell (Nat.le_refl _) _).setCell (Nat.le_refl _) _
theorem banded_mk {sb : Nat} {w w5 : World} {O : Obj} {lo d lot mr mp : Int} {v0 v1 v2 v3 v4 : Value} (m1 : lo ∈ ([-50, 0, 0, 20] : List Int)) (m2 : d ∈ ([0, 3, 10, 100] : List Int)) (m3 : lot ∈ ([1, 4, 10, 25] : List Int)) (m4 : mr ∈ ([0, 40, 500, 1000] : List Int)) (m5 : mp ∈ ([0, 40, 500, 1000] : List Int))
    (hS5 : SrcOk w5 sb) (hlt : sb < w.heap.size) (G : (w.alloc O).grownBy w5 (some sb)) :
    Banded sb w (.returned (.agg #[.int .i64 lo, .int .i64 (lo + d), .int .i64 lot, .int .i64 mr, .int .i64 mp])) (((((w5.setCell ⟨w.heap.size, 0, none⟩ v0).setCell ⟨w.heap.size, 1, none⟩ v1).setCell ⟨w.heap.size, 2, none⟩ v2).setCell ⟨w.heap.size, 3, none⟩ v3).setCell ⟨w.heap.size, 4, none⟩ v4) := by
  have hb := below_set5 w5 w.heap.size v0 v1 v2 v3 v4
  refine ⟨lo, lo + d, lot, mr, mp, ⟨m1, by rw [show lo + d - lo = d by omega]; exact m2, m3, m4, m5⟩, rfl, srcOk_below hS5 hb hlt, ?_⟩
  have z := G.size
  simp only [World.size_alloc] at z
  exact ⟨hb.os.trans G.os, hb.tape.trans G.tape, hb.output.trans G.output, Nat.le_trans (by omega) hb.size, fun k hk hne => (hb.block k hk).trans ((G.block k (by simp; omega) hne).trans (Below.heap_alloc w _ k hk))⟩

set_option maxHeartbeats 400000 in
theorem band_any (sb : Nat) (w : World) (hs : SrcOk w sb) : Calls Try.prog 10 #[.pointer (some ⟨sb, 0, none⟩)] w (Banded sb w) := by
  have hlt := srcOk_lt hs
  go_enter Try.func10, Try.ntmps10
  go_wp2_with fail
  refine (pick_lit sb [-50, 0, 0, 20] _ _ _ _ (srcOk_alloc hs _) (by decide) (by decide) rfl rfl (by simp)).mono ?_
  rintro e w1 ⟨lo, hlo, rfl, hS1, hG1⟩
  have b1 : -50 ≤ lo ∧ lo ≤ 20 := by simp at hlo; omega
  have z1 := hG1.size
  simp only [World.size_alloc] at z1
  go_wp2_with fail
  refine (pick_lit sb [0, 3, 10, 100] _ _ _ _ hS1 (by decide) (by decide) rfl rfl rfl).mono ?_
  rintro e w2 ⟨d, hd, rfl, hS2, hG2⟩
  have b2 : 0 ≤ d ∧ d ≤ 100 := by simp at hd; omega
  go_wp2_with fail
  refine (pick_lit sb [1, 4, 10, 25] _ _ _ _ hS2 (by decide) (by decide) rfl rfl rfl).mono ?_
  rintro e w3 ⟨lot, hlot, rfl, hS3, hG3⟩
  go_wp2_with fail
  refine (pick_lit sb [0, 40, 500, 1000] _ _ _ _ hS3 (by decide) (by decide) rfl rfl rfl).mono ?_
  rintro e w4 ⟨mr, hmr, rfl, hS4, hG4⟩
  go_wp2_with fail
  refine (pick_lit sb [0, 40, 500, 1000] _ _ _ _ hS4 (by decide) (by decide) rfl rfl rfl).mono ?_
  rintro e w5 ⟨mp, hmp, rfl, hS5, hG5⟩
  have g : World.grownBy _ w5 (some sb) := grownBy_trans hG1 (grownBy_trans hG2 (grownBy_trans hG3 (grownBy_trans hG4 hG5)))
  have HG := Lib.hid g
  have HH := Lib.hid (And.intro hlo (And.intro hd (And.intro hlot (And.intro hmr hmp))))
  have k0 : w5.cell? ⟨w.heap.size, 0, none⟩ = some (.int .i64 0) := g.cell (by rw [World.cell?_alloc_at _ _ _ _ rfl]; rfl) (by simp; omega)
  have k1 : w5.cell? ⟨w.heap.size, 1, none⟩ = some (.int .i64 0) := g.cell (by rw [World.cell?_alloc_at _ _ _ _ rfl]; rfl) (by simp; omega)
  have k2 : w5.cell? ⟨w.heap.size, 2, none⟩ = some (.int .i64 0) := g.cell (by rw [World.cell?_alloc_at _ _ _ _ rfl]; rfl) (by simp; omega)
  have k3 : w5.cell? ⟨w.heap.size, 3, none⟩ = some (.int .i64 0) := g.cell (by rw [World.cell?_alloc_at _ _ _ _ rfl]; rfl) (by simp; omega)
  have k4 : w5.cell? ⟨w.heap.size, 4, none⟩ = some (.int .i64 0) := g.cell (by rw [World.cell?_alloc_at _ _ _ _ rfl]; rfl) (by simp; omega)
  have kf : ∀ o, w5.frozen? ⟨w.heap.size, o, none⟩ = false := fun o => (World.frozen?_of_block (g.block w.heap.size (by simp) (by simp; omega))).trans (World.frozen?_alloc_at _ _ _ _ rfl)
  clear hG1 hG2 hG3 hG4 hG5 g hlo hd hlot hmr hmp
  go_wp2
  refine bodyPost_ret (v := .agg #[.int .i64 lo, .int .i64 (lo + d), .int .i64 lot, .int .i64 mr, .int .i64 mp]) (by simp [results, Try.results10, go_sem, k0, k1, k2, k3, k4]) rfl ?_
  obtain ⟨m1, m2, m3, m4, m5⟩ := HH.out
  exact banded_mk m1 m2 m3 m4 m5 hS5 hlt HG.out
end Go.Proofs.Ytkkgipcidbgbhaa
