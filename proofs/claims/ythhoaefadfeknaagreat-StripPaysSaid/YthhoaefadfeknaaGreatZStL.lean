/- Strips: Held, Rights, security, Parts. Printed by wip/gen/sti.py. Strips: parts. Printed by wip/gen/stj.py. Strips in plain lists: adding all parts. No program in sight. slices.Clone at slices of strips. Printed by wip/gen/clone.py. Strips: a vault that comes back. -/
import Derived.Test.YthhoaefadfeknaaGreatZStH
import Derived.Test.YthhoaefadfeknaaGreatZRegN
import Derived.Test.YthhoaefadfeknaaGreatZRegP
import Derived.WalkSpells
namespace Go.Proofs.YthhoaefadfeknaaGreat
open Go.RowKit
set_option linter.unusedVariables false
set_option linter.unusedSimpArgs false
set_option maxHeartbeats 1000000 in
theorem vheld_any (P : Nat → Prop) (vs vh vm vt : Value) (R : Reg) (L : List Stp) (s d : Int) (p : Bool) (u a : Int) (w : World) (hv : VkIn P w vs vh vm vt R L) :
    Calls Tryz.prog 54 #[.agg #[vs, vh, vm, vt], .agg #[.int .i64 s, .int .i64 d, .bool p, .int .i64 u, .int .i64 a]] w fun e w' => e = .returned (.int .i64 (vhN R L ⟨s, d, p, u, a⟩)) ∧ Below w.heap.size w w' := by
  obtain ⟨a0, n0, c0, rfl, -, -, -⟩ := hv.rg.S.shape
  obtain ⟨a1, n1, c1, rfl, -, -, -⟩ := hv.rg.H.shape
  obtain ⟨a2, n2, c2, rfl, -, -, -⟩ := hv.rg.M.shape
  obtain ⟨a3, n, c3, rfl, -, -, -⟩ := hv.st.shape
  have KC := Lib.hid (fun U (hU : Below w.heap.size w U) => vcheck_any P _ _ _ _ R L U (hv.below hU))
  obtain ⟨E, hE⟩ : ∃ E, vkE R L = E := ⟨_, rfl⟩
  rw [hE] at KC
  obtain ⟨V, hV⟩ : ∃ V, vhN R L ⟨s, d, p, u, a⟩ = V := ⟨_, rfl⟩
  rw [hV]
  unfold vhN at hV
  rw [hE] at hV
  simp only at hV
  have HV := Lib.hid hv
  have HE := Lib.hid hE
  by_cases h0 : E = 0
  · subst h0
    rw [if_pos rfl] at hV
    have hok := vkE_iff.1 HE.out
    have KH := Lib.hid (fun U (hU : Below w.heap.size w U) => stheld_any P _ L s d p u a U (HV.out.st.below hU) hok.srt HV.out.lL)
    rw [hV] at KH
    clear hV hE hv hok
    go_enter Tryz.func54, Tryz.ntmps54
    go_wp2_with fail
    refine (KC.out _ (bal (bal brefl _) _)).mono ?_
    rintro e w1 ⟨rfl, hb1⟩
    have b3 : w1.cell? ⟨w.heap.size, 3, none⟩ = some (.slice a3 n c3) := (hb1.cell (p := ⟨w.heap.size, 3, none⟩) (by simp; omega)).trans ((World.cell?_alloc_past _ _ _ (by simp)).trans (World.cell?_alloc_at _ _ _ _ rfl))
    have x0 : w1.cell? ⟨w.heap.size + 1, 0, none⟩ = some (.int .i64 s) := by have q := boxed_cell hb1 0 (v := .int .i64 s) rfl; simpa using q
    have x1 : w1.cell? ⟨w.heap.size + 1, 1, none⟩ = some (.int .i64 d) := by have q := boxed_cell hb1 1 (v := .int .i64 d) rfl; simpa using q
    have x2 : w1.cell? ⟨w.heap.size + 1, 2, none⟩ = some (.bool p) := by have q := boxed_cell hb1 2 (v := .bool p) rfl; simpa using q
    have x3 : w1.cell? ⟨w.heap.size + 1, 3, none⟩ = some (.int .i64 u) := by have q := boxed_cell hb1 3 (v := .int .i64 u) rfl; simpa using q
    have x4 : w1.cell? ⟨w.heap.size + 1, 4, none⟩ = some (.int .i64 a) := by have q := boxed_cell hb1 4 (v := .int .i64 a) rfl; simpa using q
    have HB := Lib.hid (bup (bal (bal brefl _) _) hb1)
    clear hb1
    go_wp2_with fail
    refine (KH.out _ HB.out).mono ?_
    rintro e w2 ⟨rfl, hb2⟩
    go_wp2
    go_ret
    exact ⟨rfl, bup HB.out hb2⟩
  · rw [if_neg h0] at hV
    subst hV
    have g1 : (E != 0) = true := by simpa using h0
    have g2 : (E == 0) = false := by simpa using h0
    clear hE hv
    go_enter Tryz.func54, Tryz.ntmps54
    go_wp2_with fail
    refine (KC.out _ (bal (bal brefl _) _)).mono ?_
    rintro e w1 ⟨rfl, hb1⟩
    go_wp2
    go_ret
    exact ⟨rfl, bup (bal (bal brefl _) _) hb1⟩
/-- the security that security gives -/
def GaveS (x : Sec) (E : Int) (w : World) (e : Ending) (w' : World) : Prop := e = .returned (.tuple #[valSec x, .int .i64 E]) ∧ Below w.heap.size w w'
set_option maxHeartbeats 2000000 in
set_option maxRecDepth 100000 in
theorem vsecurity_any (P : Nat → Prop) (vs vh vm vt : Value) (R : Reg) (L : List Stp) (x : Int) (w : World) (hv : VkIn P w vs vh vm vt R L) :
    Calls Tryz.prog 114 #[.agg #[vs, vh, vm, vt], .int .i64 x] w (GaveS (vsS R L x) (vsE R L x) w) := by
  obtain ⟨a0, n0, c0, rfl, -, -, -⟩ := hv.rg.S.shape
  obtain ⟨a1, n1, c1, rfl, -, -, -⟩ := hv.rg.H.shape
  obtain ⟨a2, n2, c2, rfl, -, -, -⟩ := hv.rg.M.shape
  obtain ⟨a3, n, c3, rfl, -, -, -⟩ := hv.st.shape
  have KC := Lib.hid (fun U (hU : Below w.heap.size w U) => vcheck_any P _ _ _ _ R L U (hv.below hU))
  obtain ⟨E, hE⟩ : ∃ E, vkE R L = E := ⟨_, rfl⟩
  rw [hE] at KC
  have HV := Lib.hid hv
  have HE := Lib.hid hE
  clear hv hE
  by_cases h0 : E = 0
  case neg =>
    have e1 : vsE R L x = E := by unfold vsE; rw [HE.out, if_neg h0]
    have e2 : vsS R L x = ⟨0, 0, 0, 0, 0, 0, false⟩ := by unfold vsS; rw [e1, if_neg h0]
    rw [e1, e2]
    have g1 : (E != 0) = true := by simpa using h0
    have g2 : (E == 0) = false := by simpa using h0
    clear e1 e2
    go_enter Tryz.func114, Tryz.ntmps114
    go_wp2_with fail
    refine (KC.out _ (bal (bal brefl _) _)).mono ?_
    rintro e w1 ⟨rfl, hb1⟩
    obtain ⟨hc, hf⟩ := bcell hb1
    have hz : w.heap.size + 1 < w1.heap.size := by have := hb1.size; simp at this; omega
    go_wp2
    refine bodyPost_ret (v := .tuple #[.agg #[.int .i64 0, .int .i64 0, .int .i64 0, .int .i64 0, .int .i64 0, .int .i64 0, .bool false], .int .i64 E]) (by simp [results, Tryz.results114, go_sem, hc, hz]) rfl ⟨rfl, bset7 (bup (bal (bal brefl _) _) hb1) (by simp) _ _ _ _ _ _ _⟩
  subst h0
  cases hf : findS R.secs x with
  | none =>
    have e1 : vsE R L x = 76 := by unfold vsE; rw [HE.out, if_pos rfl, hf]
    have e2 : vsS R L x = ⟨0, 0, 0, 0, 0, 0, false⟩ := by unfold vsS; rw [e1, if_neg (by omega)]
    rw [e1, e2]
    have KF := Lib.hid (fun U (hU : Below w.heap.size w U) => rfind_no P _ _ _ R x U (HV.out.rg.below hU) HV.out.lS hf)
    clear e1 e2 hf
    go_enter Tryz.func114, Tryz.ntmps114
    go_wp2_with fail
    refine (KC.out _ (bal (bal brefl _) _)).mono ?_
    rintro e w1 ⟨rfl, hb1⟩
    have b0 : w1.cell? ⟨w.heap.size, 0, none⟩ = some (.slice a0 n0 c0) := (hb1.cell (p := ⟨w.heap.size, 0, none⟩) (by simp; omega)).trans ((World.cell?_alloc_past _ _ _ (by simp)).trans (World.cell?_alloc_at _ _ _ _ rfl))
    have b1 : w1.cell? ⟨w.heap.size, 1, none⟩ = some (.slice a1 n1 c1) := (hb1.cell (p := ⟨w.heap.size, 1, none⟩) (by simp; omega)).trans ((World.cell?_alloc_past _ _ _ (by simp)).trans (World.cell?_alloc_at _ _ _ _ rfl))
    have b2 : w1.cell? ⟨w.heap.size, 2, none⟩ = some (.slice a2 n2 c2) := (hb1.cell (p := ⟨w.heap.size, 2, none⟩) (by simp; omega)).trans ((World.cell?_alloc_past _ _ _ (by simp)).trans (World.cell?_alloc_at _ _ _ _ rfl))
    have HB := Lib.hid (bup (bal (bal brefl _) _) hb1)
    have z1 : w.heap.size + 1 < w1.heap.size := by have := hb1.size; simp at this; omega
    have r0 : w1.cell? ⟨w.heap.size + 1, 0, none⟩ = some (.int .i64 0) := by have q := boxed_cell hb1 0 (v := .int .i64 0) rfl; simpa using q
    have r1 : w1.cell? ⟨w.heap.size + 1, 1, none⟩ = some (.int .i64 0) := by have q := boxed_cell hb1 1 (v := .int .i64 0) rfl; simpa using q
    have r2 : w1.cell? ⟨w.heap.size + 1, 2, none⟩ = some (.int .i64 0) := by have q := boxed_cell hb1 2 (v := .int .i64 0) rfl; simpa using q
    have r3 : w1.cell? ⟨w.heap.size + 1, 3, none⟩ = some (.int .i64 0) := by have q := boxed_cell hb1 3 (v := .int .i64 0) rfl; simpa using q
    have r4 : w1.cell? ⟨w.heap.size + 1, 4, none⟩ = some (.int .i64 0) := by have q := boxed_cell hb1 4 (v := .int .i64 0) rfl; simpa using q
    have r5 : w1.cell? ⟨w.heap.size + 1, 5, none⟩ = some (.int .i64 0) := by have q := boxed_cell hb1 5 (v := .int .i64 0) rfl; simpa using q
    have r6 : w1.cell? ⟨w.heap.size + 1, 6, none⟩ = some (.bool false) := by have q := boxed_cell hb1 6 (v := .bool false) rfl; simpa using q
    have rf := fun o => frozen_of_row w1 (w.heap.size + 1) o _ _ (show w1.heap[w.heap.size + 1]? = some (.cells #[.int .i64 0, .int .i64 0, .int .i64 0, .int .i64 0, .int .i64 0, .int .i64 0, .bool false] 26 (0, 0)) from (hb1.block _ (by simp)).trans (heap_at (by simp)))
    clear hb1
    go_wp2_with fail
    refine (KF.out _ HB.out).mono ?_
    rintro e w2 ⟨rfl, hb2⟩
    have hz : w.heap.size + 1 < w2.heap.size := by have := hb2.size; omega
    have e0 := keepB hb2 r0
    have e1 := keepB hb2 r1
    have e2 := keepB hb2 r2
    have e3 := keepB hb2 r3
    have e4 := keepB hb2 r4
    have e5 := keepB hb2 r5
    have e6 := keepB hb2 r6
    have ef := fun o => (hb2.frozen (p := ⟨w.heap.size + 1, o, none⟩) z1).trans (rf o)
    clear r0 r1 r2 r3 r4 r5 r6 rf
    have HB2 := Lib.hid (bup HB.out hb2)
    clear hb2
    go_wp2
    refine bodyPost_ret (v := .tuple #[.agg #[.int .i64 0, .int .i64 0, .int .i64 0, .int .i64 0, .int .i64 0, .int .i64 0, .bool false], .int .i64 76]) (by simp [results, Tryz.results114, go_sem, *]) rfl ⟨rfl, bal (bset7 HB2.out (by simp) _ _ _ _ _ _ _) _⟩
  | some s =>
    obtain ⟨id, un, is, ma, ra, ev, ix⟩ := s
    have KF := Lib.hid (fun U (hU : Below w.heap.size w U) => rfind_yes P _ _ _ R x id un is ma ra ev ix U (HV.out.rg.below hU) HV.out.lS hf)
    by_cases he : ev = 0
    · have e1 : vsE R L x = 76 := by unfold vsE; rw [HE.out, if_pos rfl, hf]; simp [he]
      have e2 : vsS R L x = ⟨0, 0, 0, 0, 0, 0, false⟩ := by unfold vsS; rw [e1, if_neg (by omega)]
      rw [e1, e2]
      subst he
      clear e1 e2 hf
      go_enter Tryz.func114, Tryz.ntmps114
      go_wp2_with fail
      refine (KC.out _ (bal (bal brefl _) _)).mono ?_
      rintro e w1 ⟨rfl, hb1⟩
      have b0 : w1.cell? ⟨w.heap.size, 0, none⟩ = some (.slice a0 n0 c0) := (hb1.cell (p := ⟨w.heap.size, 0, none⟩) (by simp; omega)).trans ((World.cell?_alloc_past _ _ _ (by simp)).trans (World.cell?_alloc_at _ _ _ _ rfl))
      have b1 : w1.cell? ⟨w.heap.size, 1, none⟩ = some (.slice a1 n1 c1) := (hb1.cell (p := ⟨w.heap.size, 1, none⟩) (by simp; omega)).trans ((World.cell?_alloc_past _ _ _ (by simp)).trans (World.cell?_alloc_at _ _ _ _ rfl))
      have b2 : w1.cell? ⟨w.heap.size, 2, none⟩ = some (.slice a2 n2 c2) := (hb1.cell (p := ⟨w.heap.size, 2, none⟩) (by simp; omega)).trans ((World.cell?_alloc_past _ _ _ (by simp)).trans (World.cell?_alloc_at _ _ _ _ rfl))
      have HB := Lib.hid (bup (bal (bal brefl _) _) hb1)
      have z1 : w.heap.size + 1 < w1.heap.size := by have := hb1.size; simp at this; omega
      have r0 : w1.cell? ⟨w.heap.size + 1, 0, none⟩ = some (.int .i64 0) := by have q := boxed_cell hb1 0 (v := .int .i64 0) rfl; simpa using q
      have r1 : w1.cell? ⟨w.heap.size + 1, 1, none⟩ = some (.int .i64 0) := by have q := boxed_cell hb1 1 (v := .int .i64 0) rfl; simpa using q
      have r2 : w1.cell? ⟨w.heap.size + 1, 2, none⟩ = some (.int .i64 0) := by have q := boxed_cell hb1 2 (v := .int .i64 0) rfl; simpa using q
      have r3 : w1.cell? ⟨w.heap.size + 1, 3, none⟩ = some (.int .i64 0) := by have q := boxed_cell hb1 3 (v := .int .i64 0) rfl; simpa using q
      have r4 : w1.cell? ⟨w.heap.size + 1, 4, none⟩ = some (.int .i64 0) := by have q := boxed_cell hb1 4 (v := .int .i64 0) rfl; simpa using q
      have r5 : w1.cell? ⟨w.heap.size + 1, 5, none⟩ = some (.int .i64 0) := by have q := boxed_cell hb1 5 (v := .int .i64 0) rfl; simpa using q
      have r6 : w1.cell? ⟨w.heap.size + 1, 6, none⟩ = some (.bool false) := by have q := boxed_cell hb1 6 (v := .bool false) rfl; simpa using q
      have rf := fun o => frozen_of_row w1 (w.heap.size + 1) o _ _ (show w1.heap[w.heap.size + 1]? = some (.cells #[.int .i64 0, .int .i64 0, .int .i64 0, .int .i64 0, .int .i64 0, .int .i64 0, .bool false] 26 (0, 0)) from (hb1.block _ (by simp)).trans (heap_at (by simp)))
      clear hb1
      go_wp2_with fail
      refine (KF.out _ HB.out).mono ?_
      rintro e w2 ⟨rfl, hb2⟩
      have hz : w.heap.size + 1 < w2.heap.size := by have := hb2.size; omega
      have e0 := keepB hb2 r0
      have e1 := keepB hb2 r1
      have e2 := keepB hb2 r2
      have e3 := keepB hb2 r3
      have e4 := keepB hb2 r4
      have e5 := keepB hb2 r5
      have e6 := keepB hb2 r6
      have ef := fun o => (hb2.frozen (p := ⟨w.heap.size + 1, o, none⟩) z1).trans (rf o)
      clear r0 r1 r2 r3 r4 r5 r6 rf
      have HB2 := Lib.hid (bup HB.out hb2)
      clear hb2
      go_wp2
      refine bodyPost_ret (v := .tuple #[.agg #[.int .i64 0, .int .i64 0, .int .i64 0, .int .i64 0, .int .i64 0, .int .i64 0, .bool false], .int .i64 76]) (by simp [results, Tryz.results114, go_sem, *]) rfl ⟨rfl, bal (bset7 HB2.out (by simp) _ _ _ _ _ _ _) _⟩
    · have e1 : vsE R L x = 0 := by unfold vsE; rw [HE.out, if_pos rfl, hf]; simp [he]
      have e2 : vsS R L x = ⟨id, un, is, ma, ra, ev, ix⟩ := by unfold vsS; rw [e1, if_pos rfl, hf]; rfl
      rw [e1, e2]
      have g1 : (ev == 0) = false := by simpa using he
      clear e1 e2 hf he
      go_enter Tryz.func114, Tryz.ntmps114
      go_wp2_with fail
      refine (KC.out _ (bal (bal brefl _) _)).mono ?_
      rintro e w1 ⟨rfl, hb1⟩
      have b0 : w1.cell? ⟨w.heap.size, 0, none⟩ = some (.slice a0 n0 c0) := (hb1.cell (p := ⟨w.heap.size, 0, none⟩) (by simp; omega)).trans ((World.cell?_alloc_past _ _ _ (by simp)).trans (World.cell?_alloc_at _ _ _ _ rfl))
      have b1 : w1.cell? ⟨w.heap.size, 1, none⟩ = some (.slice a1 n1 c1) := (hb1.cell (p := ⟨w.heap.size, 1, none⟩) (by simp; omega)).trans ((World.cell?_alloc_past _ _ _ (by simp)).trans (World.cell?_alloc_at _ _ _ _ rfl))
      have b2 : w1.cell? ⟨w.heap.size, 2, none⟩ = some (.slice a2 n2 c2) := (hb1.cell (p := ⟨w.heap.size, 2, none⟩) (by simp; omega)).trans ((World.cell?_alloc_past _ _ _ (by simp)).trans (World.cell?_alloc_at _ _ _ _ rfl))
      have HB := Lib.hid (bup (bal (bal brefl _) _) hb1)
      have z1 : w.heap.size + 1 < w1.heap.size := by have := hb1.size; simp at this; omega
      have r0 : w1.cell? ⟨w.heap.size + 1, 0, none⟩ = some (.int .i64 0) := by have q := boxed_cell hb1 0 (v := .int .i64 0) rfl; simpa using q
      have r1 : w1.cell? ⟨w.heap.size + 1, 1, none⟩ = some (.int .i64 0) := by have q := boxed_cell hb1 1 (v := .int .i64 0) rfl; simpa using q
      have r2 : w1.cell? ⟨w.heap.size + 1, 2, none⟩ = some (.int .i64 0) := by have q := boxed_cell hb1 2 (v := .int .i64 0) rfl; simpa using q
      have r3 : w1.cell? ⟨w.heap.size + 1, 3, none⟩ = some (.int .i64 0) := by have q := boxed_cell hb1 3 (v := .int .i64 0) rfl; simpa using q
      have r4 : w1.cell? ⟨w.heap.size + 1, 4, none⟩ = some (.int .i64 0) := by have q := boxed_cell hb1 4 (v := .int .i64 0) rfl; simpa using q
      have r5 : w1.cell? ⟨w.heap.size + 1, 5, none⟩ = some (.int .i64 0) := by have q := boxed_cell hb1 5 (v := .int .i64 0) rfl; simpa using q
      have r6 : w1.cell? ⟨w.heap.size + 1, 6, none⟩ = some (.bool false) := by have q := boxed_cell hb1 6 (v := .bool false) rfl; simpa using q
      have rf := fun o => frozen_of_row w1 (w.heap.size + 1) o _ _ (show w1.heap[w.heap.size + 1]? = some (.cells #[.int .i64 0, .int .i64 0, .int .i64 0, .int .i64 0, .int .i64 0, .int .i64 0, .bool false] 26 (0, 0)) from (hb1.block _ (by simp)).trans (heap_at (by simp)))
      clear hb1
      go_wp2_with fail
      refine (KF.out _ HB.out).mono ?_
      rintro e w2 ⟨rfl, hb2⟩
      have hz : w.heap.size + 1 < w2.heap.size := by have := hb2.size; omega
      have e0 := keepB hb2 r0
      have e1 := keepB hb2 r1
      have e2 := keepB hb2 r2
      have e3 := keepB hb2 r3
      have e4 := keepB hb2 r4
      have e5 := keepB hb2 r5
      have e6 := keepB hb2 r6
      have ef := fun o => (hb2.frozen (p := ⟨w.heap.size + 1, o, none⟩) z1).trans (rf o)
      clear r0 r1 r2 r3 r4 r5 r6 rf
      have HB2 := Lib.hid (bup HB.out hb2)
      clear hb2
      go_wp2
      refine bodyPost_ret (v := .tuple #[.agg #[.int .i64 id, .int .i64 un, .int .i64 is, .int .i64 ma, .int .i64 ra, .int .i64 ev, .bool ix], .int .i64 0]) (by simp [results, Tryz.results114, go_sem, *]) rfl ⟨rfl, bal (bset7 HB2.out (by simp) _ _ _ _ _ _ _) _⟩
/-- what Parts leaves -/
def PartsW (M : List Stp) (w : World) (e : Ending) (w' : World) : Prop := ∃ v, e = .returned v ∧ w'.ownsRow w.heap.size 88 5 v M.length (flatE encStp M) ∧ Below w.heap.size w w'
theorem partsW_nil {M : List Stp} {w w' : World} (h : M = []) (hb : Below w.heap.size w w') : PartsW M w (.returned (.slice none 0 0)) w' := by
  subst h; exact ⟨_, rfl, World.ownsRow_nil _ _ _ _, hb⟩
/-- the parts of the first k days -/
def parK (D : List Int) (id day : Int) (k : Nat) : List Stp := ((D.take k).filter fun d => decide (day < d)).map fun d => ⟨id, d, false, 0, 0⟩
theorem parK_len (D : List Int) (id day : Int) (k : Nat) : (parK D id day k).length ≤ k := by
  unfold parK
  rw [List.length_map]
  exact Nat.le_trans (List.length_filter_le _ _) (by rw [List.length_take]; omega)
theorem parK_yes {D : List Int} {id day d : Int} {k : Nat} (h : D[k]? = some d) (hd : day < d) : parK D id day (k + 1) = parK D id day k ++ [⟨id, d, false, 0, 0⟩] := by
  unfold parK; rw [take_snocZ h]; simp [hd]
theorem parK_no {D : List Int} {id day d : Int} {k : Nat} (h : D[k]? = some d) (hd : ¬ day < d) : parK D id day (k + 1) = parK D id day k := by
  unfold parK; rw [take_snocZ h]; simp [hd]
set_option maxHeartbeats 4000000 in
set_option maxRecDepth 100000 in
theorem stParts_any (id un is ma ra ev : Int) (ix : Bool) (day : Int) (w : World) :
    Calls Tryz.prog 74 #[.agg #[.int .i64 id, .int .i64 un, .int .i64 is, .int .i64 ma, .int .i64 ra, .int .i64 ev, .bool ix], .int .i64 day] w (PartsW (partsL ⟨id, un, is, ma, ra, ev, ix⟩ day) w) := by
  obtain ⟨so, hso⟩ : ∃ b, secB id un is ma ra ev = b := ⟨_, rfl⟩
  have KS := Lib.hid (fun W => security_any id un is ma ra ev ix W)
  rw [hso] at KS
  have HSO := Lib.hid hso
  have hp : partsB ⟨id, un, is, ma, ra, ev, ix⟩ day = (so && (ev != 0 && (decide (is ≤ day) && decide (day < ma)))) := by unfold partsB secOk; simp only; rw [hso]
  have HP := Lib.hid hp
  clear hso hp
  cases so with
  | false =>
    have e1 : partsL ⟨id, un, is, ma, ra, ev, ix⟩ day = [] := by unfold partsL; rw [HP.out]; simp []
    rw [e1]
    clear e1
    go_enter Tryz.func74, Tryz.ntmps74
    go_wp2_with fail
    refine (KS.out _).mono ?_
    rintro e w1 ⟨rfl, hb1⟩
    have s0 : w1.cell? ⟨w.heap.size, 0, none⟩ = some (.int .i64 id) := boxed_cell hb1 0 rfl
    have s1 : w1.cell? ⟨w.heap.size, 1, none⟩ = some (.int .i64 un) := boxed_cell hb1 1 rfl
    have s2 : w1.cell? ⟨w.heap.size, 2, none⟩ = some (.int .i64 is) := boxed_cell hb1 2 rfl
    have s3 : w1.cell? ⟨w.heap.size, 3, none⟩ = some (.int .i64 ma) := boxed_cell hb1 3 rfl
    have s4 : w1.cell? ⟨w.heap.size, 4, none⟩ = some (.int .i64 ra) := boxed_cell hb1 4 rfl
    have s5 : w1.cell? ⟨w.heap.size, 5, none⟩ = some (.int .i64 ev) := boxed_cell hb1 5 rfl
    have s6 : w1.cell? ⟨w.heap.size, 6, none⟩ = some (.bool ix) := boxed_cell hb1 6 rfl
    go_wp2
    go_ret
    exact partsW_nil rfl (bup (bal brefl _) hb1)
  | true =>
  by_cases he : ev = 0
  case pos =>
    have e1 : partsL ⟨id, un, is, ma, ra, ev, ix⟩ day = [] := by unfold partsL; rw [HP.out]; simp [he]
    rw [e1]
    have g1 : (ev == 0) = true := by simpa using he
    clear he
    clear e1
    go_enter Tryz.func74, Tryz.ntmps74
    go_wp2_with fail
    refine (KS.out _).mono ?_
    rintro e w1 ⟨rfl, hb1⟩
    have s0 : w1.cell? ⟨w.heap.size, 0, none⟩ = some (.int .i64 id) := boxed_cell hb1 0 rfl
    have s1 : w1.cell? ⟨w.heap.size, 1, none⟩ = some (.int .i64 un) := boxed_cell hb1 1 rfl
    have s2 : w1.cell? ⟨w.heap.size, 2, none⟩ = some (.int .i64 is) := boxed_cell hb1 2 rfl
    have s3 : w1.cell? ⟨w.heap.size, 3, none⟩ = some (.int .i64 ma) := boxed_cell hb1 3 rfl
    have s4 : w1.cell? ⟨w.heap.size, 4, none⟩ = some (.int .i64 ra) := boxed_cell hb1 4 rfl
    have s5 : w1.cell? ⟨w.heap.size, 5, none⟩ = some (.int .i64 ev) := boxed_cell hb1 5 rfl
    have s6 : w1.cell? ⟨w.heap.size, 6, none⟩ = some (.bool ix) := boxed_cell hb1 6 rfl
    go_wp2
    go_ret
    exact partsW_nil rfl (bup (bal brefl _) hb1)
  by_cases h3 : is ≤ day
  case neg =>
    have e1 : partsL ⟨id, un, is, ma, ra, ev, ix⟩ day = [] := by unfold partsL; rw [HP.out]; simp [he, h3]
    rw [e1]
    have g1 : (ev == 0) = false := by simpa using he
    have g3 : day < is := by omega
    clear e1
    go_enter Tryz.func74, Tryz.ntmps74
    go_wp2_with fail
    refine (KS.out _).mono ?_
    rintro e w1 ⟨rfl, hb1⟩
    have s0 : w1.cell? ⟨w.heap.size, 0, none⟩ = some (.int .i64 id) := boxed_cell hb1 0 rfl
    have s1 : w1.cell? ⟨w.heap.size, 1, none⟩ = some (.int .i64 un) := boxed_cell hb1 1 rfl
    have s2 : w1.cell? ⟨w.heap.size, 2, none⟩ = some (.int .i64 is) := boxed_cell hb1 2 rfl
    have s3 : w1.cell? ⟨w.heap.size, 3, none⟩ = some (.int .i64 ma) := boxed_cell hb1 3 rfl
    have s4 : w1.cell? ⟨w.heap.size, 4, none⟩ = some (.int .i64 ra) := boxed_cell hb1 4 rfl
    have s5 : w1.cell? ⟨w.heap.size, 5, none⟩ = some (.int .i64 ev) := boxed_cell hb1 5 rfl
    have s6 : w1.cell? ⟨w.heap.size, 6, none⟩ = some (.bool ix) := boxed_cell hb1 6 rfl
    go_wp2
    go_ret
    exact partsW_nil rfl (bup (bal brefl _) hb1)
  by_cases h4 : day < ma
  case neg =>
    have e1 : partsL ⟨id, un, is, ma, ra, ev, ix⟩ day = [] := by unfold partsL; rw [HP.out]; simp [he, h3, h4]
    rw [e1]
    have g1 : (ev == 0) = false := by simpa using he
    have g3 : ¬ day < is := by omega
    have g4 : ma ≤ day := by omega
    clear e1
    go_enter Tryz.func74, Tryz.ntmps74
    go_wp2_with fail
    refine (KS.out _).mono ?_
    rintro e w1 ⟨rfl, hb1⟩
    have s0 : w1.cell? ⟨w.heap.size, 0, none⟩ = some (.int .i64 id) := boxed_cell hb1 0 rfl
    have s1 : w1.cell? ⟨w.heap.size, 1, none⟩ = some (.int .i64 un) := boxed_cell hb1 1 rfl
    have s2 : w1.cell? ⟨w.heap.size, 2, none⟩ = some (.int .i64 is) := boxed_cell hb1 2 rfl
    have s3 : w1.cell? ⟨w.heap.size, 3, none⟩ = some (.int .i64 ma) := boxed_cell hb1 3 rfl
    have s4 : w1.cell? ⟨w.heap.size, 4, none⟩ = some (.int .i64 ra) := boxed_cell hb1 4 rfl
    have s5 : w1.cell? ⟨w.heap.size, 5, none⟩ = some (.int .i64 ev) := boxed_cell hb1 5 rfl
    have s6 : w1.cell? ⟨w.heap.size, 6, none⟩ = some (.bool ix) := boxed_cell hb1 6 rfl
    go_wp2
    go_ret
    exact partsW_nil rfl (bup (bal brefl _) hb1)
  have hP : partsB ⟨id, un, is, ma, ra, ev, ix⟩ day = true := by rw [HP.out]; simp [he, h3, h4]
  obtain ⟨D, hD⟩ : ∃ D, daysOf ⟨id, un, is, ma, ra, ev, ix⟩ = D := ⟨_, rfl⟩
  have hdl : D.length ≤ 1000000 := by rw [← hD, daysOf_len]; exact dayN_le id un is ma ra ev ix
  have KY := fun W => days_own id un is ma ra ev ix W
  unfold DaysOwn at KY
  rw [hD] at KY
  obtain ⟨n, hn⟩ : ∃ n, D.length = n := ⟨_, rfl⟩
  rw [hn] at KY hdl
  have hM : partsL ⟨id, un, is, ma, ra, ev, ix⟩ day = parK D id day n ++ [⟨id, ma, true, 0, 0⟩] := by
    unfold partsL parK; rw [if_pos hP, hD, ← hn, List.take_length]
  rw [hM]
  have HY := Lib.hid KY
  have HN := Lib.hid hn
  have g1 : (ev == 0) = false := by simpa using he
  have g3 : ¬ day < is := by omega
  have g4 : ¬ ma ≤ day := by omega
  obtain ⟨i1, hi, hz0, hz1, hz2⟩ := info_parts infoStp
  clear hM hP hD KY hn HP
  go_enter Tryz.func74, Tryz.ntmps74
  go_wp2_with fail
  refine (KS.out _).mono ?_
  rintro e w1 ⟨rfl, hb1⟩
  have s0 : w1.cell? ⟨w.heap.size, 0, none⟩ = some (.int .i64 id) := boxed_cell hb1 0 rfl
  have s1 : w1.cell? ⟨w.heap.size, 1, none⟩ = some (.int .i64 un) := boxed_cell hb1 1 rfl
  have s2 : w1.cell? ⟨w.heap.size, 2, none⟩ = some (.int .i64 is) := boxed_cell hb1 2 rfl
  have s3 : w1.cell? ⟨w.heap.size, 3, none⟩ = some (.int .i64 ma) := boxed_cell hb1 3 rfl
  have s4 : w1.cell? ⟨w.heap.size, 4, none⟩ = some (.int .i64 ra) := boxed_cell hb1 4 rfl
  have s5 : w1.cell? ⟨w.heap.size, 5, none⟩ = some (.int .i64 ev) := boxed_cell hb1 5 rfl
  have s6 : w1.cell? ⟨w.heap.size, 6, none⟩ = some (.bool ix) := boxed_cell hb1 6 rfl
  have HB := Lib.hid (bup (bal brefl _) hb1)
  clear hb1
  go_wp2_with fail
  refine (HY.out _).mono ?_
  rintro e w2 ⟨v2, rfl, ho2, hb2⟩
  have HS2 := Lib.hid (Sl.own encI_len ho2 HN.out (P := fun _ => True) (fun _ _ => trivial))
  obtain ⟨ao, cc, rfl⟩ := own_sl ho2
  have HB2 := Lib.hid (bup HB.out hb2)
  have t0 := keepB hb2 s0
  have t3 := keepB hb2 s3
  have zz : w.heap.size < w2.heap.size := World.block_lt_of_cell? _ _ t0
  clear ho2 hb2 s0 s1 s2 s3 s4 s5 s6
  go_wp2
  go_loopw [5, 31] (fun v iv wr => ∃ k : Nat, k ≤ n ∧ iv = .int .i64 k ∧ wr.ownsRow w2.heap.size 88 5 v (parK D id day k).length (flatE encStp (parK D id day k)) ∧ Below w2.heap.size w2 wr) (fun _ iv _ => n - (intOf iv).toNat)
  case atStart => exact ⟨0, by omega, rfl, World.ownsRow_nil _ _ _ _, brefl⟩
  case round =>
    obtain ⟨k, hk, rfl, hown, hbr⟩ := hrel
    have u0 := keepB hbr t0
    have u3 := keepB hbr t3
    have zr := hbr.size
    have hpl := parK_len D id day k
    by_cases hlt : k < n
    · obtain ⟨b, off, d, rfl, -, hbb, hL, k0⟩ := (HS2.out.below hbr).int hlt
      have hkz : (k : Int) < (n : Int) := by omega
      by_cases hd : day < d
      · have HK := Lib.hid (parK_yes (id := id) hL hd)
        clear hL
        go_wp2_with (at_builtin; go_must (refine wpList_append_own _ rfl _ _ 67 rfl w2.heap.size 88 i1 (.agg #[.int .i64 0, .int .i64 0, .bool false, .int .i64 0, .int .i64 0]) 5 40 Tryz.underlying67 hi hz0 hz1 hz2 rfl (by decide) _ _ _ rfl (hown.alloc _) ⟨wr.heap.size, 0, none⟩ 1 1 (encStp ⟨id, d, false, 0, 0⟩) rfl rfl (newsL _ _ _) (oneStp _) (by unfold maxLen; omega) (by omega) (by simp; omega) ?_); intro v' w3 hown' hgrow _; have hb3 : Below w2.heap.size w2 w3 := (hbr.alloc hbr.size _).grown hgrow (by simp; omega) (fun q hq => (hown.lt q hq).1))
        go_roundw
        case rel => exact ⟨k + 1, by omega, by go_num, by rw [HK.out, flatE_snoc, List.length_append]; exact hown', hb3⟩
        case measure => simp [intOf]; omega
      · have HK := Lib.hid (parK_no (id := id) hL hd)
        clear hL
        go_wp2
        go_roundw
        case rel => exact ⟨k + 1, by omega, by go_num, by rw [HK.out]; exact hown, hbr⟩
        case measure => simp [intOf]; omega
    · obtain rfl : k = n := by omega
      go_wp2_with (at_builtin; go_must (refine wpList_append_own _ rfl _ _ 67 rfl w2.heap.size 88 i1 (.agg #[.int .i64 0, .int .i64 0, .bool false, .int .i64 0, .int .i64 0]) 5 40 Tryz.underlying67 hi hz0 hz1 hz2 rfl (by decide) _ _ _ rfl (hown.alloc _) ⟨wr.heap.size, 0, none⟩ 1 1 (encStp ⟨id, ma, true, 0, 0⟩) rfl rfl (newsL _ _ _) (oneStp _) (by unfold maxLen; omega) (by omega) (by simp; omega) ?_); intro v' w3 hown' hgrow _; have hb3 : Below w2.heap.size w2 w3 := (hbr.alloc hbr.size _).grown hgrow (by simp; omega) (fun q hq => (hown.lt q hq).1))
      go_wp2
      go_ret
      exact ⟨_, rfl, by rw [flatE_snoc, List.length_append]; exact ownsRow_baseZ hown' HB2.out.size, bup HB2.out hb3⟩
end Go.Proofs.YthhoaefadfeknaaGreat
namespace Go.Proofs.YthhoaefadfeknaaGreat
open Go.RowKit
set_option linter.unusedVariables false
set_option linter.unusedSimpArgs false
theorem dayN_le2 (id un is ma ra ev : Int) (ix : Bool) : dayN id un is ma ra ev ≤ 1300 := by
  unfold dayN
  split
  · rename_i h
    simp only [Bool.and_eq_true, bne_iff_ne] at h
    obtain ⟨_, _, _, _, i0, m0, m1, m2, r0, r1, he⟩ := secB_iff.1 h.1
    have e1 : 1 ≤ ev := by omega
    have h1 : (ma - is) / (30 * ev) ≤ (ma - is) / 30 := by
      apply Int.le_ediv_of_mul_le (by omega)
      have := Int.ediv_mul_le (ma - is) (show 30 * ev ≠ 0 by omega)
      have h0 : 0 ≤ (ma - is) / (30 * ev) := Int.ediv_nonneg (by omega) (by omega)
      have h2 : (ma - is) / (30 * ev) * 30 ≤ (ma - is) / (30 * ev) * (30 * ev) := Int.mul_le_mul_of_nonneg_left (by omega) h0
      omega
    omega
  · omega
theorem daysOf_le (x : Sec) : (daysOf x).length ≤ 1300 := by rw [daysOf_len]; exact dayN_le2 x.id x.un x.is x.ma x.ra x.ev x.ix
theorem partsL_le (x : Sec) (day : Int) : (partsL x day).length ≤ 1301 := by
  unfold partsL
  split
  · have := daysOf_le x
    have h2 := List.length_filter_le (fun d => decide (day < d)) (daysOf x)
    simp only [List.length_append, List.length_map, List.length_singleton]
    omega
  · simp
def addrB : Option Addr → Nat
  | some a => a.block
  | none => 0
def setO (h : Int) (y : Stp) : Stp := ⟨y.s, y.d, y.p, h, y.a⟩
theorem later_parts (x : Sec) (day : Int) : ((partsL x day).filter fun y => !y.p).map (·.d) = laterD x day := by
  unfold partsL laterD
  split
  · generalize (daysOf x).filter (fun d => decide (day < d)) = D
    rw [List.filter_append, List.map_append]
    have e : ([⟨x.id, x.ma, true, 0, 0⟩] : List Stp).filter (fun y => !y.p) = [] := rfl
    rw [e, List.map_nil, List.append_nil]
    induction D with
    | nil => rfl
    | cons a D ih => simp only [List.map_cons, List.filter_cons]; simpa using ih
  · rfl
/-- k parts have their holder -/
def mixK (M : List Stp) (h : Int) (k : Nat) : List Stp := (M.take k).map (setO h) ++ M.drop k
def latK (M : List Stp) (k : Nat) : List Int := ((M.take k).filter fun y => !y.p).map (·.d)
theorem mixK_len (M : List Stp) (h : Int) (k : Nat) : (mixK M h k).length = M.length := by
  unfold mixK
  rw [List.length_append, List.length_map, ← List.length_append, List.take_append_drop]
theorem latK_len (M : List Stp) (k : Nat) : (latK M k).length ≤ k := by
  unfold latK
  rw [List.length_map]
  exact Nat.le_trans (List.length_filter_le _ _) (by rw [List.length_take]; omega)
theorem mixK_at {M : List Stp} {h : Int} {k : Nat} {y : Stp} (hy : M[k]? = some y) : mixK M h k = (M.take k).map (setO h) ++ y :: M.drop (k + 1) ∧ mixK M h (k + 1) = (M.take k).map (setO h) ++ setO h y :: M.drop (k + 1) := by
  unfold mixK
  rw [take_snocZ hy, drop_cons hy]
  simp
theorem latK_yes {M : List Stp} {k : Nat} {y : Stp} (hy : M[k]? = some y) (hp : y.p = false) : latK M (k + 1) = latK M k ++ [y.d] := by
  unfold latK; rw [take_snocZ hy]; simp [hp]
theorem latK_no {M : List Stp} {k : Nat} {y : Stp} (hy : M[k]? = some y) (hp : y.p = true) : latK M (k + 1) = latK M k := by
  unfold latK; rw [take_snocZ hy]; simp [hp]
theorem flatP_setO (L1 L2 : List Stp) (y : Stp) (h : Int) (q : Nat) (hq : L1.length = q) : (flatE encStp (L1 ++ y :: L2)).set (q * 5 + 3) (.int .i64 h) = flatE encStp (L1 ++ setO h y :: L2) := by
  have hl : (flatE encStp L1).length = q * 5 := by rw [flatE_length encStp_len, hq]
  have e : ∀ b, flatE encStp (L1 ++ b :: L2) = flatE encStp L1 ++ (.int .i64 b.s :: .int .i64 b.d :: .bool b.p :: .int .i64 b.h :: .int .i64 b.a :: flatE encStp L2) := fun b => by simp [flatE, encStp]
  rw [e, e, List.set_append_right _ _ (by omega), hl, Nat.add_sub_cancel_left]
  rfl
/-- what parts leaves -/
def PrW (M : List Stp) (E : Int) (w : World) (e : Ending) (w' : World) : Prop := ∃ v, e = .returned (.tuple #[v, .int .i64 E]) ∧ w'.ownsRow w.heap.size 88 5 v M.length (flatE encStp M) ∧ Below w.heap.size w w'
theorem prW_nil {M : List Stp} {E : Int} {w w' : World} (h : M = []) (hb : Below w.heap.size w w') : PrW M E w (.returned (.tuple #[.slice none 0 0, .int .i64 E])) w' := by
  subst h; exact ⟨_, rfl, World.ownsRow_nil _ _ _ _, hb⟩
set_option maxHeartbeats 8000000 in
set_option maxRecDepth 100000 in
theorem stparts_any (P : Nat → Prop) (vs vh vm vt : Value) (R : Reg) (L : List Stp) (id un is ma ra ev : Int) (ix : Bool) (day h : Int) (w : World) (hv : VkIn P w vs vh vm vt R L) (hok : ∀ x ∈ L, 0 < x.a ∧ x.a ≤ 1000000000000) (hlen : L.length ≤ 100000) :
    Calls Tryz.prog 116 #[.agg #[vs, vh, vm, vt], .agg #[.int .i64 id, .int .i64 un, .int .i64 is, .int .i64 ma, .int .i64 ra, .int .i64 ev, .bool ix], .int .i64 day, .int .i64 h] w (PrW (prL L ⟨id, un, is, ma, ra, ev, ix⟩ day h) (prE L ⟨id, un, is, ma, ra, ev, ix⟩ day) w) := by
  obtain ⟨a0, n0, c0, rfl, -, -, -⟩ := hv.rg.S.shape
  obtain ⟨a1, n1, c1, rfl, -, -, -⟩ := hv.rg.H.shape
  obtain ⟨a2, n2, c2, rfl, -, -, -⟩ := hv.rg.M.shape
  obtain ⟨a3, n3, c3, rfl, -, -, -⟩ := hv.st.shape
  have KP := fun U => stParts_any id un is ma ra ev ix day U
  have KD := fun U (hU : Below w.heap.size w U) => stdays_any P _ L id un is ma ra ev ix U (hv.st.below hU) hok hlen
  unfold PartsW at KP
  unfold DaysLeft at KD
  have hlt := later_parts ⟨id, un, is, ma, ra, ev, ix⟩ day
  have hml := partsL_le ⟨id, un, is, ma, ra, ev, ix⟩ day
  obtain ⟨E, hE⟩ : ∃ E, prE L ⟨id, un, is, ma, ra, ev, ix⟩ day = E := ⟨_, rfl⟩
  obtain ⟨G, hG⟩ : ∃ G, prL L ⟨id, un, is, ma, ra, ev, ix⟩ day h = G := ⟨_, rfl⟩
  rw [hE, hG]
  unfold prL at hG
  rw [hE] at hG
  unfold prE at hE
  obtain ⟨M, hM⟩ : ∃ M, partsL ⟨id, un, is, ma, ra, ev, ix⟩ day = M := ⟨_, rfl⟩
  obtain ⟨T, hT⟩ : ∃ T, laterD ⟨id, un, is, ma, ra, ev, ix⟩ day = T := ⟨_, rfl⟩
  obtain ⟨F, hF⟩ : ∃ F, leftD L ⟨id, un, is, ma, ra, ev, ix⟩ = F := ⟨_, rfl⟩
  have hFl : F.length ≤ 1300 := by rw [← hF]; unfold leftD; exact Nat.le_trans (List.length_filter_le _ _) (daysOf_le _)
  rw [hM] at hE hG KP hlt hml
  rw [hT] at hE hlt
  rw [hF] at hE KD
  obtain ⟨n, hn⟩ : ∃ n, M.length = n := ⟨_, rfl⟩
  obtain ⟨f, hf⟩ : ∃ f, F.length = f := ⟨_, rfl⟩
  rw [hn] at KP hml
  rw [hf] at KD hFl
  have HKP := Lib.hid KP
  have HKD := Lib.hid KD
  have HE := Lib.hid hE
  have HG := Lib.hid hG
  have HLT := Lib.hid hlt
  have HN := Lib.hid hn
  have HF := Lib.hid hf
  obtain ⟨i1, hi, hz0, hz1, hz2⟩ := info_parts infoInt
  clear hv hok hlen KP KD hE hG hlt hM hT hF hn hf
  go_enter Tryz.func116, Tryz.ntmps116
  go_wp2_with fail
  refine (HKP.out _).mono ?_
  rintro e w1 ⟨v1, rfl, ho1, hb1⟩
  have b0 : w1.cell? ⟨w.heap.size, 0, none⟩ = some (.slice a0 n0 c0) := (hb1.cell (p := ⟨w.heap.size, 0, none⟩) (by simp; omega)).trans ((World.cell?_alloc_past _ _ _ (by simp)).trans (World.cell?_alloc_at _ _ _ _ rfl))
  have b1 : w1.cell? ⟨w.heap.size, 1, none⟩ = some (.slice a1 n1 c1) := (hb1.cell (p := ⟨w.heap.size, 1, none⟩) (by simp; omega)).trans ((World.cell?_alloc_past _ _ _ (by simp)).trans (World.cell?_alloc_at _ _ _ _ rfl))
  have b2 : w1.cell? ⟨w.heap.size, 2, none⟩ = some (.slice a2 n2 c2) := (hb1.cell (p := ⟨w.heap.size, 2, none⟩) (by simp; omega)).trans ((World.cell?_alloc_past _ _ _ (by simp)).trans (World.cell?_alloc_at _ _ _ _ rfl))
  have b3 : w1.cell? ⟨w.heap.size, 3, none⟩ = some (.slice a3 n3 c3) := (hb1.cell (p := ⟨w.heap.size, 3, none⟩) (by simp; omega)).trans ((World.cell?_alloc_past _ _ _ (by simp)).trans (World.cell?_alloc_at _ _ _ _ rfl))
  have s0 : w1.cell? ⟨w.heap.size + 1, 0, none⟩ = some (.int .i64 id) := by have q := boxed_cell hb1 0 (v := .int .i64 id) rfl; simpa using q
  have s1 : w1.cell? ⟨w.heap.size + 1, 1, none⟩ = some (.int .i64 un) := by have q := boxed_cell hb1 1 (v := .int .i64 un) rfl; simpa using q
  have s2 : w1.cell? ⟨w.heap.size + 1, 2, none⟩ = some (.int .i64 is) := by have q := boxed_cell hb1 2 (v := .int .i64 is) rfl; simpa using q
  have s3 : w1.cell? ⟨w.heap.size + 1, 3, none⟩ = some (.int .i64 ma) := by have q := boxed_cell hb1 3 (v := .int .i64 ma) rfl; simpa using q
  have s4 : w1.cell? ⟨w.heap.size + 1, 4, none⟩ = some (.int .i64 ra) := by have q := boxed_cell hb1 4 (v := .int .i64 ra) rfl; simpa using q
  have s5 : w1.cell? ⟨w.heap.size + 1, 5, none⟩ = some (.int .i64 ev) := by have q := boxed_cell hb1 5 (v := .int .i64 ev) rfl; simpa using q
  have s6 : w1.cell? ⟨w.heap.size + 1, 6, none⟩ = some (.bool ix) := by have q := boxed_cell hb1 6 (v := .bool ix) rfl; simpa using q
  have zw : ((w.alloc (.cells #[.slice a0 n0 c0, .slice a1 n1 c1, .slice a2 n2 c2, .slice a3 n3 c3] 69)).alloc (.cells #[.int .i64 id, .int .i64 un, .int .i64 is, .int .i64 ma, .int .i64 ra, .int .i64 ev, .bool ix] 26)).heap.size = w.heap.size + 1 + 1 := by simp
  rw [zw] at ho1
  obtain ⟨W0, hW0⟩ : ∃ W, W = (w.alloc (.cells #[.slice a0 n0 c0, .slice a1 n1 c1, .slice a2 n2 c2, .slice a3 n3 c3] 69)).alloc (.cells #[.int .i64 id, .int .i64 un, .int .i64 is, .int .i64 ma, .int .i64 ra, .int .i64 ev, .bool ix] 26) := ⟨_, rfl⟩
  have HB0 := Lib.hid (show Below w.heap.size w W0 by rw [hW0]; exact bal (bal brefl _) _)
  have hz : W0.heap.size = w.heap.size + 1 + 1 := by rw [hW0]; exact zw
  rw [← hW0] at hb1
  have HB1 := Lib.hid hb1
  have HO1 := Lib.hid ho1
  have HW0 := Lib.hid hz
  have BB := Lib.hid b3
  have SS := Lib.hid (And.intro s0 (And.intro s1 (And.intro s2 (And.intro s3 (And.intro s4 (And.intro s5 s6))))))
  have z1 : w.heap.size + 1 + 1 ≤ w1.heap.size := by have := hb1.size; omega
  obtain ⟨o1, cp1, rfl⟩ := own_sl ho1
  clear ho1 hb1 zw hW0 hz b0 b1 b2 b3 s0 s1 s2 s3 s4 s5 s6
  go_wp2_with fail
  go_loopw [11, 19] (fun v iv wr => ∃ k : Nat, k ≤ n ∧ iv = .int .i64 k ∧ wr.ownsRow (w.heap.size + 1 + 1) 88 5 (.slice o1 n cp1) n (flatE encStp (mixK M h k)) ∧ wr.ownsRow w1.heap.size 3 1 v (latK M k).length (flatE encI (latK M k)) ∧ Below (w.heap.size + 1 + 1) w1 wr) (fun _ iv _ => n - (intOf iv).toNat)
  case atStart => exact ⟨0, by omega, rfl, by unfold mixK; simpa using HO1.out, World.ownsRow_nil _ _ _ _, Below.refl _ _⟩
  case round =>
    obtain ⟨k, hk, rfl, hown, hlat, hbr⟩ := hrel
    have zr := hbr.size
    have hpl := latK_len M k
    by_cases hlt : k < n
    · obtain ⟨y, hy⟩ : ∃ y, M[k]? = some y := ⟨_, List.getElem?_eq_getElem (by have := HN.out; omega)⟩
      obtain ⟨m1, m2⟩ := mixK_at (h := h) hy
      have hlk : ((M.take k).map (setO h)).length = k := by rw [List.length_map, List.length_take]; have := HN.out; omega
      have hrow : RowZ 88 5 encStp (w.heap.size + 1 + 1) (addrB o1) n cp1 (mixK M h k) wr ∧ o1 = some ⟨addrB o1, 0, none⟩ := by
        obtain ⟨g, cap, rest, he, -, -, -, -, -, -⟩ := own_whole hown (by omega)
        cases he
        exact ⟨⟨hown, by rw [mixK_len]; exact HN.out⟩, rfl⟩
      obtain ⟨hrow, ho1⟩ := hrow
      obtain ⟨g, hg⟩ : ∃ g, addrB o1 = g := ⟨_, rfl⟩
      rw [hg] at hrow ho1
      have hky : (mixK M h k)[k]? = some y := by rw [m1, List.getElem?_append_right (by omega), hlk]; simp
      obtain ⟨ys, yd, yp, yh, ya⟩ := y
      have c1 := hrow.cell encStp_len (i := 1) hky rfl
      have c2 := hrow.cell encStp_len (i := 2) hky rfl
      have c3 := hrow.cell encStp_len (i := 3) hky rfl
      have f3 := hrow.fro (k * 5 + 3)
      have hst := World.ownsRow.stored hrow.1 (k * 5 + 3) (.int .i64 h)
      rw [m1, flatP_setO _ _ _ h k hlk, ← m2] at hst
      obtain ⟨hst1, hst2⟩ := hst
      have hgl := (hrow.1.lt g rfl)
      have hgw : g < w1.heap.size := (HO1.out.lt g (by rw [ho1]; rfl)).2
      have hlat2 : (wr.setCell ⟨g, k * 5 + 3, none⟩ (.int .i64 h)).ownsRow w1.heap.size 3 1 _ (latK M k).length (flatE encI (latK M k)) := World.ownsRow.kept hlat hst2 (by
        rcases hq : Value.ownBlock _ with _ | q
        · exact .inl rfl
        · exact .inr (by have := (hlat.lt q hq).1; simp; omega))
      have hbr2 : Below (w.heap.size + 1 + 1) w1 (wr.setCell ⟨g, k * 5 + 3, none⟩ (.int .i64 h)) := hbr.setCell hgl.1 _
      have HY := Lib.hid hy
      have HST := Lib.hid hst1
      have HLA := Lib.hid hlat2
      have HBR := Lib.hid hbr2
      have kz : (k : Int) < (n : Int) := by omega
      have zs : (wr.setCell ⟨g, k * 5 + 3, none⟩ (.int .i64 h)).heap.size = wr.heap.size := by simp [World.setCell]
      have ZS := Lib.hid zs
      subst ho1
      clear hg hky hst1 hst2 hlat hlat2 hown hbr hbr2 hy m1 m2 hlk hrow zs hgl
      cases yp with
      | false =>
        have HK := Lib.hid (latK_yes HY.out rfl)
        go_wp2_with (at_builtin; go_must (refine wpList_append_own _ rfl _ _ 22 rfl w1.heap.size 3 i1 (.int .i64 0) 1 8 Tryz.underlying22 hi hz0 hz1 hz2 rfl (by decide) _ _ _ rfl (HLA.out.alloc _) ⟨wr.heap.size, 0, none⟩ 1 1 [.int .i64 yd] rfl rfl (by have q := news1 (wr.setCell ⟨g, k * 5 + 3, none⟩ (.int .i64 h)) (.int .i64 yd) 3; rw [ZS.out] at q; exact q) (one1 _ _) (by unfold maxLen; omega) (by omega) (by have := ZS.out; simp; omega) ?_); intro v' w3 hown' hgrow _)
        have hb3 : Below (w.heap.size + 1 + 1) w1 w3 := (HBR.out.alloc (by have := ZS.out; omega) _).grown hgrow (by have := ZS.out; simp; omega) (fun q hq => by have := (HLA.out.lt q hq).1; omega)
        have ho3 : w3.ownsRow (w.heap.size + 1 + 1) 88 5 (.slice (some ⟨g, 0, none⟩) n cp1) n (flatE encStp (mixK M h (k + 1))) := World.ownsRow.kept (HST.out.alloc _) hgrow (by
          refine .inr ?_
          intro hq
          have := (HLA.out.lt g hq.symm).1
          omega)
        go_roundw
        case rel => exact ⟨k + 1, by omega, by go_num, ho3, by rw [HK.out, flatE_snoc, List.length_append]; exact hown', hb3⟩
        case measure => simp [intOf]; omega
      | true =>
        have HK := Lib.hid (latK_no HY.out rfl)
        go_wp2
        go_roundw
        case rel => exact ⟨k + 1, by omega, by go_num, HST.out, by rw [HK.out]; exact HLA.out, HBR.out⟩
        case measure => simp [intOf]; omega
    · obtain rfl : k = n := by omega
      have hmx : mixK M h k = M.map (setO h) := by unfold mixK; rw [take_all (by have := HN.out; omega), drop_all (by have := HN.out; omega), List.append_nil]
      have hlx : latK M k = T := by unfold latK; rw [take_all (by have := HN.out; omega)]; exact HLT.out
      rw [hmx] at hown
      rw [hlx] at hlat
      have hwb : Below w.heap.size w wr := HB0.out.trans ((HB1.out.mono (by have := HW0.out; omega)).trans (hbr.mono (by omega)))
      have hq := fun (b : Nat) (hb : b < w.heap.size + 1 + 1) => hbr.block b hb
      have b3 := (World.cell?_of_block (a := ⟨w.heap.size, 3, none⟩) (hq w.heap.size (by omega))).trans BB.out
      obtain ⟨s0, s1, s2, s3, s4, s5, s6⟩ := SS.out
      replace s0 := (World.cell?_of_block (a := ⟨w.heap.size + 1, 0, none⟩) (hq (w.heap.size + 1) (by omega))).trans s0
      replace s1 := (World.cell?_of_block (a := ⟨w.heap.size + 1, 1, none⟩) (hq (w.heap.size + 1) (by omega))).trans s1
      replace s2 := (World.cell?_of_block (a := ⟨w.heap.size + 1, 2, none⟩) (hq (w.heap.size + 1) (by omega))).trans s2
      replace s3 := (World.cell?_of_block (a := ⟨w.heap.size + 1, 3, none⟩) (hq (w.heap.size + 1) (by omega))).trans s3
      replace s4 := (World.cell?_of_block (a := ⟨w.heap.size + 1, 4, none⟩) (hq (w.heap.size + 1) (by omega))).trans s4
      replace s5 := (World.cell?_of_block (a := ⟨w.heap.size + 1, 5, none⟩) (hq (w.heap.size + 1) (by omega))).trans s5
      replace s6 := (World.cell?_of_block (a := ⟨w.heap.size + 1, 6, none⟩) (hq (w.heap.size + 1) (by omega))).trans s6
      have HOW := Lib.hid hown
      have HLA := Lib.hid hlat
      have HWB := Lib.hid hwb
      have hT1 : T.length ≤ 1301 := by rw [← hlx]; omega
      obtain ⟨lo, lc, hlv⟩ := own_sl hlat
      clear hown hlat hbr hwb hq hmx hlx
      subst hlv
      go_wp2_with fail
      refine (HKD.out _ HWB.out).mono ?_
      rintro e w4 ⟨v4, rfl, ho4, hb4⟩
      have HO4 := Lib.hid ho4
      obtain ⟨fo, fc, rfl⟩ := own_sl ho4
      have HW4 := Lib.hid (bup HWB.out hb4)
      have HOW4 := Lib.hid (ownsRow_baseZ (b' := w.heap.size) (ownsRow_belowZ HOW.out hb4) (by omega))
      have KQ := Lib.hid (eqI_any (fun _ => True) (fun _ => True) _ _ F T w4 (Sl.own encI_len HO4.out HF.out (fun _ _ => trivial)) (Sl.own encI_len (ownsRow_belowZ HLA.out hb4) rfl (fun _ _ => trivial)) (by have := HF.out; omega) (by omega))
      have hfl : ∀ j : Nat, j = k → (M.map (setO h)).length = j := fun j hj => by rw [List.length_map, hj]; exact HN.out
      have HFL := Lib.hid hfl
      clear ho4 hb4 b3 s0 s1 s2 s3 s4 s5 s6 hfl
      by_cases hk0 : k = 0
      · have hM0 : M = [] := List.eq_nil_of_length_eq_zero (by rw [HN.out, hk0])
        have hE := HE.out
        rw [if_pos (.inl hM0)] at hE
        subst hE
        have hG := HG.out
        rw [if_neg (by omega)] at hG
        have g1 : ((k : Int) == 0) = true := by simp; omega
        clear hM0
        go_wp2
        go_ret2
        exact prW_nil hG.symm HW4.out
      · have hM0 : ¬ M = [] := fun he => hk0 (by rw [← HN.out, he]; rfl)
        have g1 : ((k : Int) == 0) = false := by simp; omega
        by_cases hf0 : f = 0
        · have hF0 : F = [] := List.eq_nil_of_length_eq_zero (by rw [HF.out, hf0])
          have hE := HE.out
          rw [if_neg (by simp [hM0, hF0])] at hE
          subst hE
          have hG := HG.out
          rw [if_pos rfl] at hG
          have g2 : ¬ (0 : Int) < (f : Int) := by omega
          clear hM0 hF0
          go_wp2
          go_ret2
          refine ⟨_, rfl, ?_, HW4.out⟩
          rw [← hG, show (M.map fun y => (⟨y.s, y.d, y.p, h, y.a⟩ : Stp)) = M.map (setO h) from rfl, HFL.out k rfl]
          exact HOW4.out
        · have g2 : (0 : Int) < (f : Int) := by omega
          have hF0 : ¬ F = [] := fun he => hf0 (by rw [← HF.out, he]; rfl)
          obtain ⟨r, hr⟩ : ∃ r, decide (F = T) = r := ⟨_, rfl⟩
          rw [hr] at KQ
          cases r with
          | true =>
            have hFT : F = T := by simpa using hr
            have hE := HE.out
            rw [if_neg (by simp [hM0, hFT])] at hE
            subst hE
            have hG := HG.out
            rw [if_pos rfl] at hG
            have HGG := Lib.hid hG
            clear hM0 hF0 hFT hr hG
            go_wp2_with fail
            refine KQ.out.mono ?_
            rintro e w5 ⟨rfl, hb5⟩
            go_wp2
            go_ret2
            refine ⟨_, rfl, ?_, bup HW4.out hb5⟩
            rw [← HGG.out, show (M.map fun y => (⟨y.s, y.d, y.p, h, y.a⟩ : Stp)) = M.map (setO h) from rfl, HFL.out k rfl]
            exact ownsRow_belowZ HOW4.out hb5
          | false =>
            have hFT : ¬ F = T := by simpa using hr
            have hE := HE.out
            rw [if_pos (.inr ⟨hF0, hFT⟩)] at hE
            subst hE
            have hG := HG.out
            rw [if_neg (by omega)] at hG
            have HGG := Lib.hid hG
            clear hM0 hF0 hFT hr hG
            go_wp2_with fail
            refine KQ.out.mono ?_
            rintro e w5 ⟨rfl, hb5⟩
            go_wp2
            go_ret2
            exact prW_nil HGG.out.symm (bup HW4.out hb5)
end Go.Proofs.YthhoaefadfeknaaGreat
namespace Go.Proofs.YthhoaefadfeknaaGreat
open Go.RowKit
set_option linter.unusedVariables false
theorem addAll_cons (L : List Stp) (y : Stp) (M : List Stp) (n : Int) : addAll L (y :: M) n = addAll (addP L y.s y.d y.p y.h n) M n := rfl
theorem addAll_snoc (L M : List Stp) (y : Stp) (n : Int) : addAll L (M ++ [y]) n = addP (addAll L M n) y.s y.d y.p y.h n := by unfold addAll; rw [List.foldl_append]; rfl
theorem addAll_len : ∀ (M L : List Stp) (n : Int), (addAll L M n).length ≤ L.length + M.length
  | [], L, n => by simp [addAll]
  | y :: M, L, n => by
    rw [addAll_cons]
    have h1 := addAll_len M (addP L y.s y.d y.p y.h n) n
    have h2 := addP_len L y.s y.d y.p y.h n
    simp only [List.length_cons]; omega
theorem addAll_srt : ∀ {M L : List Stp} (n : Int), srtP L → srtP (addAll L M n)
  | [], L, n, h => h
  | y :: M, L, n, h => by rw [addAll_cons]; exact addAll_srt n (addP_srt n h)
theorem heldP_mem : ∀ {L : List Stp} {s d : Int} {p : Bool} {h a : Int}, srtP L → (⟨s, d, p, h, a⟩ : Stp) ∈ L → heldP L s d p h = a
  | [], _, _, _, _, _, _, hx => by simp at hx
  | y :: L, s, d, p, h, a, hs, hx => by
    simp only [heldP]
    rcases List.mem_cons.1 hx with hx | hx
    · rw [← hx]; simp [eqS]
    · have := srtP_head hs _ hx
      simp only at this
      have e : eqS y s d p h = false := by rw [eqS_not]; omega
      rw [e]
      exact heldP_mem (srtP_tail hs) hx
theorem heldP_bd {B : Int} : ∀ {L : List Stp}, (∀ z ∈ L, 0 ≤ z.a ∧ z.a ≤ B) → 0 ≤ B → ∀ s d p h, 0 ≤ heldP L s d p h ∧ heldP L s d p h ≤ B
  | [], _, hB, _, _, _, _ => ⟨Int.le_refl _, hB⟩
  | y :: L, hz, hB, s, d, p, h => by
    simp only [heldP]
    split
    · exact hz y (List.mem_cons_self ..)
    · exact heldP_bd (fun z h => hz z (List.mem_cons_of_mem _ h)) hB s d p h
theorem addP_amt {L : List Stp} {s d : Int} {p : Bool} {h n : Int} (hs : srtP L) {x : Stp} (hx : x ∈ addP L s d p h n) : x ∈ L ∨ x.a = heldP L s d p h + n := by
  rcases addP_mem hx with ⟨h1, h2, h3, h4⟩ | h1
  · right
    have e := addP_held (L := L) (s := s) (d := d) (p := p) (h := h) n s d p h hs
    rw [if_pos ⟨rfl, rfl, rfl, rfl⟩] at e
    rw [← e]
    have hs2 := addP_srt (s := s) (d := d) (p := p) (h := h) n hs
    obtain ⟨xs, xd, xp, xh, xa⟩ := x
    simp only at h1 h2 h3 h4
    obtain rfl := kd_inj h3
    subst h1 h2 h4
    exact (heldP_mem hs2 hx).symm
  · exact .inl h1
/-- keys that differ -/
def difK (M : List Stp) : Prop := M.Pairwise fun x y => ¬ (x.s = y.s ∧ x.d = y.d ∧ kd x.p = kd y.p ∧ x.h = y.h)
structure AmtI (L M : List Stp) : Prop where
  srt : srtP L
  dif : difK M
  amt : ∀ x ∈ L, -1000000000000 ≤ x.a ∧ x.a ≤ 2000000000000
  hel : ∀ y ∈ M, 0 ≤ heldP L y.s y.d y.p y.h ∧ heldP L y.s y.d y.p y.h ≤ 1000000000000
theorem AmtI.step {L M : List Stp} {y : Stp} {n : Int} (h : AmtI L (y :: M)) (h0 : -1000000000000 ≤ n) (h1 : n ≤ 1000000000000) : AmtI (addP L y.s y.d y.p y.h n) M := by
  refine ⟨addP_srt n h.srt, (List.pairwise_cons.1 h.dif).2, fun x hx => ?_, fun z hz => ?_⟩
  · have hy := h.hel y (List.mem_cons_self ..)
    rcases addP_amt h.srt hx with h2 | h2
    · exact h.amt x h2
    · omega
  · rw [addP_held n _ _ _ _ h.srt, if_neg ((List.pairwise_cons.1 h.dif).1 z hz)]
    have := h.hel z (List.mem_cons_of_mem _ hz)
    omega
theorem AmtI.all {n : Int} (h0 : -1000000000000 ≤ n) (h1 : n ≤ 1000000000000) : ∀ (A : List Stp) {L B : List Stp}, AmtI L (A ++ B) → AmtI (addAll L A n) B
  | [], L, B, h => h
  | y :: A, L, B, h => by rw [addAll_cons]; exact AmtI.all h0 h1 A (h.step h0 h1)
theorem AmtI.at_ {L M : List Stp} {n : Int} (h : AmtI L M) (h0 : -1000000000000 ≤ n) (h1 : n ≤ 1000000000000) (k : Nat) : AmtI (addAll L (M.take k) n) (M.drop k) := AmtI.all h0 h1 _ (by rw [List.take_append_drop]; exact h)
theorem dayAt_lt {is ev : Int} (h : 1 ≤ ev) {i j : Nat} (hij : i < j) : dayAt is ev i < dayAt is ev j := by
  unfold dayAt
  have : 30 * ev * ((i : Int) + 1) < 30 * ev * ((j : Int) + 1) := Int.mul_lt_mul_of_pos_left (by omega) (by omega)
  omega
theorem daysOf_inc (x : Sec) (hs : secOk x = true) (he : x.ev ≠ 0) : (daysOf x).Pairwise (· < ·) := by
  have e1 : 1 ≤ x.ev := by
    obtain ⟨_, _, _, _, i0, m0, m1, m2, r0, r1, h⟩ := secB_iff.1 hs
    omega
  unfold daysOf daysL
  rw [List.pairwise_map]
  exact List.Pairwise.imp (fun {a b} hab => dayAt_lt e1 hab) List.pairwise_lt_range
theorem prL_dif (L : List Stp) (x : Sec) (day h : Int) : difK (prL L x day h) := by
  unfold prL
  split
  · unfold partsL
    split
    · rename_i hp
      unfold partsB at hp
      simp only [Bool.and_eq_true, bne_iff_ne] at hp
      have hd := daysOf_inc x hp.1 hp.2.1
      rw [List.map_append]
      refine List.pairwise_append.2 ⟨?_, by simp, ?_⟩
      · rw [List.map_map, List.pairwise_map]
        exact (hd.filter _).imp (fun {a b} hab => by simp only [Function.comp]; omega)
      · intro a ha b hb
        simp only [List.map_cons, List.map_nil, List.mem_singleton] at hb
        subst hb
        simp only [List.map_map, List.mem_map, Function.comp] at ha
        obtain ⟨c, -, rfl⟩ := ha
        simp [kd]
    · simp [difK]
  · simp [difK]
theorem amtI_start {R : Reg} {L : List Stp} (h : VkOk R L) (x : Sec) (day hh : Int) : AmtI L (prL L x day hh) := by
  refine ⟨h.srt, prL_dif L x day hh, fun y hy => by have := h.amt y hy; omega, fun y _ => ?_⟩
  have hp := heldP_bd (B := 1000000000000) (fun z hz => by have := h.amt z hz; omega) (by omega) y.s y.d y.p y.h
  exact hp
end Go.Proofs.YthhoaefadfeknaaGreat
namespace Go.Proofs.YthhoaefadfeknaaGreat
open Go.RowKit
set_option linter.unusedVariables false
set_option linter.unusedSimpArgs false

set_option maxHeartbeats 1000000 in
theorem cloneStp_any (P : Nat → Prop) (v : Value) (L : List Stp) (w : World) (h : Sl 5 encStp P w v L) (hlen : L.length ≤ 1000000) :
    Calls Tryz.prog 117 #[v] w (Copied 5 encStp 88 L w) := by
  obtain ⟨ao, n, c, rfl, hn, hnc, hcm, hcase⟩ := h
  have hn1 : n ≤ 1000000 := by omega
  obtain ⟨i1, hi, hz0, hz1, hz2⟩ := info_parts infoStp
  have HN := Lib.hid hn
  have e1 := @Lib.run_eql_slice_nil
  cases ao with
  | none =>
    have h0 : n = 0 := by
      rcases hcase with h | ⟨b, off, h, _⟩
      · exact h
      · cases h
    subst h0
    have hL : L = [] := List.eq_nil_of_length_eq_zero HN.out
    subst hL
    clear hn hcase
    go_enter Tryz.func117, Tryz.ntmps117
    go_wp2
    go_ret
    exact ⟨_, rfl, World.ownsRow_nil _ _ _ _, brefl⟩
  | some a =>
    have hsrc : ∀ j u, (flatE encStp L)[j]? = some u → (w.alloc (.cells #[] 88)).cell? (a.add j) = some u := by
      rcases hcase with h | ⟨b, off, h, _, hb, hc⟩
      · have hL : L = [] := List.eq_nil_of_length_eq_zero (by omega)
        subst hL
        intro j u hj
        simp [flatE] at hj
      · cases h
        intro j u hj
        rw [add_litZ]
        exact keepA (flatE_cells encStp_len L off hc j u hj)
    have hown : (w.alloc (.cells #[] 88)).ownsRow w.heap.size 88 5 (.slice (some ⟨w.heap.size, 0, none⟩) 0 0) 0 [] := World.ownsRow_made w #[] 0 (Nat.le_refl _) (Nat.zero_le _) rfl
    have HS := Lib.hid hsrc
    have hfl : (flatE encStp L).length = n * 5 := by rw [flatE_length encStp_len, hn]
    have HF := Lib.hid hfl
    obtain ⟨X, hX⟩ : ∃ X, flatE encStp L = X := ⟨_, rfl⟩
    have ho : ∀ u ∈ X, u.oneCell' = true := by rw [← hX]; exact oneE oneStp L
    rw [hX] at HS HF
    have HX := Lib.hid hX
    have HO := Lib.hid ho
    clear hsrc hn hcase hfl hX ho
    obtain ⟨ab, ao, asp⟩ := a
    go_enter Tryz.func117, Tryz.ntmps117
    go_wp2_with (at_builtin; refine wpList_append_own _ rfl _ _ 67 rfl w.heap.size 88 i1 (.agg #[.int .i64 0, .int .i64 0, .bool false, .int .i64 0, .int .i64 0]) 5 40 Tryz.underlying67 hi hz0 hz1 hz2 rfl (by decide) _ _ _ rfl hown ⟨ab, ao, asp⟩ n c X rfl HF.out HS.out HO.out (by unfold maxLen; omega) (by omega) (by simp) ?_; intro v' w2 hown' hgrow _)
    obtain ⟨av, cv, rfl⟩ := own_slice0 hown'
    go_wp2
    go_ret
    exact ⟨_, rfl, by rw [HX.out, HN.out]; simpa using hown', (bal brefl _).grown hgrow (by simp) (fun q hq => by cases hq; exact Nat.le_refl _)⟩
end Go.Proofs.YthhoaefadfeknaaGreat
namespace Go.Proofs.YthhoaefadfeknaaGreat
open Go.RowKit
set_option linter.unusedVariables false
/-- a vault and an error come back -/
def GaveV (P : Nat → Prop) (R : Reg) (L : List Stp) (E : Int) (w : World) (e : Ending) (w' : World) : Prop :=
  ∃ vs vh vm vt, e = .returned (.tuple #[.agg #[vs, vh, vm, vt], .int .i64 E]) ∧ RgIn P w' vs vh vm R ∧ Sl 5 encStp P w' vt L ∧ Below w.heap.size w w'
theorem GaveV.shape {P : Nat → Prop} {R : Reg} {L : List Stp} {E : Int} {w : World} {e : Ending} {w' : World} (h : GaveV P R L E w e w') :
    ∃ a0 n0 c0 a1 n1 c1 a2 n2 c2 a3 n3 c3, e = .returned (.tuple #[.agg #[.slice a0 n0 c0, .slice a1 n1 c1, .slice a2 n2 c2, .slice a3 n3 c3], .int .i64 E]) ∧ RgIn P w' (.slice a0 n0 c0) (.slice a1 n1 c1) (.slice a2 n2 c2) R ∧ Sl 5 encStp P w' (.slice a3 n3 c3) L ∧ Below w.heap.size w w' := by
  obtain ⟨vs, vh, vm, vt, rfl, hr, hs, hb⟩ := h
  obtain ⟨a0, n0, c0, rfl, -, -, -⟩ := hr.S.shape
  obtain ⟨a1, n1, c1, rfl, -, -, -⟩ := hr.H.shape
  obtain ⟨a2, n2, c2, rfl, -, -, -⟩ := hr.M.shape
  obtain ⟨a3, n3, c3, rfl, -, -, -⟩ := hs.shape
  exact ⟨_, _, _, _, _, _, _, _, _, _, _, _, rfl, hr, hs, hb⟩
theorem gaveV_nil {P : Nat → Prop} {R : Reg} {L : List Stp} {E k : Int} {w w' : World} (hR : R = ⟨[], [], []⟩) (hL : L = []) (hE : E = k) (hb : Below w.heap.size w w') : GaveV P R L E w (.returned (.tuple #[.agg #[.slice none 0 0, .slice none 0 0, .slice none 0 0, .slice none 0 0], .int .i64 k])) w' := by
  subst hR hL hE
  exact ⟨_, _, _, _, rfl, rgIn_nil _ _, Sl.nil, hb⟩
theorem vset4 {w w1 : World} (h : Below w.heap.size w w1) {b : Nat} (hp : w.heap.size ≤ b) (v0 v1 v2 v3 : Value) : Below w.heap.size w ((((w1.setCell ⟨b, 0, none⟩ v0).setCell ⟨b, 1, none⟩ v1).setCell ⟨b, 2, none⟩ v2).setCell ⟨b, 3, none⟩ v3) := bset (bset (bset (bset h hp _) hp _) hp _) hp _
theorem vgrown4 (w : World) (b : Nat) (v0 v1 v2 v3 : Value) : w.grownBy ((((w.setCell ⟨b, 0, none⟩ v0).setCell ⟨b, 1, none⟩ v1).setCell ⟨b, 2, none⟩ v2).setCell ⟨b, 3, none⟩ v3) (some b) :=
  ztrans (ztrans (ztrans (grownBy_setCellZ w b 0 v0) (grownBy_setCellZ _ b 1 v1)) (grownBy_setCellZ _ b 2 v2)) (grownBy_setCellZ _ b 3 v3)
theorem vheap4 {w : World} {b : Nat} {T : TypeId} {u0 u1 u2 u3 : Value} (v0 v1 v2 v3 : Value) (h : w.heap[b]? = some (.cells #[u0, u1, u2, u3] T (0, 0))) : ((((w.setCell ⟨b, 0, none⟩ v0).setCell ⟨b, 1, none⟩ v1).setCell ⟨b, 2, none⟩ v2).setCell ⟨b, 3, none⟩ v3).heap[b]? = some (.cells #[v0, v1, v2, v3] T (0, 0)) := by
  have e0 := heap_setCell_same w _ 0 _ _ v0 h
  have e1 := heap_setCell_same _ _ 1 _ _ v1 e0
  have e2 := heap_setCell_same _ _ 2 _ _ v2 e1
  have e3 := heap_setCell_same _ _ 3 _ _ v3 e2
  rw [e3]; rfl
theorem own_ne {w : World} {base b n z : Nat} {T T' : TypeId} {v : Value} {xs : List Value} {C : Array Value} (ho : w.ownsRow base T z v n xs) (hb : w.heap[b]? = some (.cells C T' (0, 0))) (hT : T ≠ T') : v.ownBlock ≠ some b := by
  intro hq
  rcases ho.2 with ⟨rfl, -⟩ | ⟨g, cap, cur, rfl, hbg, hg, -⟩
  · simp [Value.ownBlock] at hq
  · simp only [Value.ownBlock, Option.some.injEq] at hq
    subst hq
    rw [hg] at hb
    cases hb
    exact hT rfl
/-- a new vault in a box B: three cells of a register, and a row of strips of the call's own -/
def CutV (x0 x1 x2 : Value) (L : List Stp) (w3 : World) (s : Value) (wx : World) : Prop :=
  ∃ (B : Nat) (ao : Option Addr) (cp : Nat), s = .pointer (some ⟨B, 0, none⟩) ∧ wx.heap[B]? = some (.cells #[x0, x1, x2, .slice ao L.length cp] 69 (0, 0)) ∧ w3.heap.size ≤ B ∧ B < wx.heap.size ∧ wx.ownsRow w3.heap.size 88 5 (.slice ao L.length cp) L.length (flatE encStp L) ∧ Below w3.heap.size w3 wx
theorem clone_from (P : Nat → Prop) (v : Value) (L : List Stp) (w3 U : World) (hU : Below w3.heap.size w3 U) (h : Sl 5 encStp P U v L) (hlen : L.length ≤ 1000000) :
    Calls Tryz.prog 117 #[v] U fun e w4 => ∃ ao cp, e = .returned (.slice ao L.length cp) ∧ w4.ownsRow w3.heap.size 88 5 (.slice ao L.length cp) L.length (flatE encStp L) ∧ Below w3.heap.size w3 w4 ∧ Below U.heap.size U w4 := by
  refine (cloneStp_any P v L U h hlen).mono ?_
  rintro e w4 ⟨v5, rfl, ho4, hb4⟩
  have hs : ∃ ao cp, v5 = .slice ao L.length cp := by
    rcases ho4.2 with ⟨rfl, h0⟩ | ⟨g, cap, cur, rfl, _⟩
    · rw [h0]; exact ⟨_, _, rfl⟩
    · exact ⟨_, _, rfl⟩
  obtain ⟨ao, cp, rfl⟩ := hs
  exact ⟨ao, cp, rfl, ownsRow_baseZ ho4 hU.size, bup hU hb4, hb4⟩
theorem cutV_new {x0 x1 x2 : Value} {L : List Stp} {w3 w4 : World} {ao : Option Addr} {cp : Nat} (hx : Below w3.heap.size w3 w4) (ho : w4.ownsRow w3.heap.size 88 5 (.slice ao L.length cp) L.length (flatE encStp L)) : CutV x0 x1 x2 L w3 (.pointer (some ⟨w4.heap.size, 0, none⟩)) (w4.alloc (.cells #[x0, x1, x2, .slice ao L.length cp] 69 (0, 0))) :=
  ⟨w4.heap.size, ao, cp, rfl, heap_alloc_new w4 _, hx.size, by simp, ho.alloc _, bal hx _⟩
theorem cutV_set {x0 x1 x2 u0 u1 u2 u3 : Value} {L : List Stp} {w3 w4 : World} {ao : Option Addr} {cp : Nat} (hB : w4.heap[w3.heap.size]? = some (.cells #[u0, u1, u2, u3] 69 (0, 0))) (hx : Below w3.heap.size w3 w4) (ho : w4.ownsRow w3.heap.size 88 5 (.slice ao L.length cp) L.length (flatE encStp L)) :
    CutV x0 x1 x2 L w3 (.pointer (some ⟨w3.heap.size, 0, none⟩)) ((((w4.setCell ⟨w3.heap.size, 0, none⟩ x0).setCell ⟨w3.heap.size, 1, none⟩ x1).setCell ⟨w3.heap.size, 2, none⟩ x2).setCell ⟨w3.heap.size, 3, none⟩ (.slice ao L.length cp)) := by
  have hg := vgrown4 w4 w3.heap.size x0 x1 x2 (.slice ao L.length cp)
  exact ⟨w3.heap.size, ao, cp, rfl, vheap4 _ _ _ _ hB, Nat.le_refl _, Nat.lt_of_lt_of_le (Array.getElem?_eq_some_iff.1 hB).1 hg.size, World.ownsRow.kept ho hg (.inr (own_ne ho hB (by decide))), vset4 hx (Nat.le_refl _) _ _ _ _⟩
theorem rmE_pos {R : Reg} {m : Mv} (h : rmE R m = 0) : 0 < m.a ∧ m.a ≤ 1000000000000 := by
  obtain ⟨_, _, hm⟩ := rmE_zero h
  exact ⟨hm.a0, hm.a1⟩
theorem vsE_zero {R : Reg} {L : List Stp} {id : Int} (h : vsE R L id = 0) : vkE R L = 0 := by
  unfold vsE at h
  split at h
  · assumption
  · exact h
end Go.Proofs.YthhoaefadfeknaaGreat
