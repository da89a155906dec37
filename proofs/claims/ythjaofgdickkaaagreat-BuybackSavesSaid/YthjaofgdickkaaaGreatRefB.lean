/- the reference's register: Find. -/
import Derived.Test.YthjaofgdickkaaaGreatRefA
namespace Go.Proofs.YthjaofgdickkaaaGreat
open Go.RowKit
set_option linter.unusedVariables false
set_option linter.unusedSimpArgs false
set_option maxHeartbeats 4000000 in
theorem ffind_yes (P : Nat → Prop) (vs vh vm : Value) (R : Reg) (x : Int) (id un is ma ra ev : Int) (ix : Bool) (w : World) (hr : RgIn P w vs vh vm R) (hlen : R.secs.length ≤ 1000000) (hf : findS R.secs x = some ⟨id, un, is, ma, ra, ev, ix⟩) :
    Calls Tryz.prog 50 #[.agg #[vs, vh, vm], .int .i64 x] w fun e w' => e = .returned (.tuple #[.agg #[.int .i64 id, .int .i64 un, .int .i64 is, .int .i64 ma, .int .i64 ra, .int .i64 ev, .bool ix], .bool true]) ∧ Below w.heap.size w w' := by
  obtain ⟨a0, n0, c0, rfl, hn0, -, -⟩ := hr.S.shape
  obtain ⟨a1, n1, c1, rfl, -, -, -⟩ := hr.H.shape
  obtain ⟨a2, n2, c2, rfl, -, -, -⟩ := hr.M.shape
  have hn1 : n0 ≤ 1000000 := by omega
  have HS := Lib.hid hr.S
  have HN := Lib.hid hn0
  have HF := Lib.hid hf
  clear hr hn0 hlen hf
  go_enter Tryz.func50, Tryz.ntmps50
  go_wp2
  go_loopw [11] (fun iv wr => ∃ k : Nat, k ≤ n0 ∧ iv = .int .i64 k ∧ findS (R.secs.drop k) x = some ⟨id, un, is, ma, ra, ev, ix⟩ ∧ Below w.heap.size w wr ∧ wr.heap[w.heap.size + 1]? = some (.cells #[.int .i64 0, .int .i64 0, .int .i64 0, .int .i64 0, .int .i64 0, .int .i64 0, .bool false] 26 (0, 0))) (fun iv _ => n0 - (intOf iv).toNat)
  case atStart => exact ⟨0, by omega, rfl, by rw [List.drop_zero]; exact HF.out, bal (bal brefl _) _, heap_at (by simp)⟩
  case round =>
    obtain ⟨k, hk, rfl, hrk, hbr, hx⟩ := hrel
    have zr := hbr.size
    have zx : w.heap.size + 1 < wr.heap.size := (Array.getElem?_eq_some_iff.1 hx).1
    have hlt : k < n0 := by
      rcases Nat.lt_or_ge k n0 with h | h
      · exact h
      · rw [drop_all (by have := HN.out; omega)] at hrk; cases hrk
    obtain ⟨b, off, vid, vun, vis, vma, vra, vev, vix, rfl, -, hb', hL, k0, k1, k2, k3, k4, k5, k6⟩ := (HS.out.below hbr).sec hlt
    rw [drop_cons hL] at hrk
    simp only [findS] at hrk
    have HRK := Lib.hid hrk
    have HBR := Lib.hid hbr
    have HX := Lib.hid hx
    have xf : ∀ i, wr.frozen? ⟨w.heap.size + 1, i, none⟩ = false := fun i => frozen_of_row wr _ _ _ _ hx
    have x0 := cell_heap (i := 0) hx rfl
    have x1 := cell_heap (i := 1) hx rfl
    have x2 := cell_heap (i := 2) hx rfl
    have x3 := cell_heap (i := 3) hx rfl
    have x4 := cell_heap (i := 4) hx rfl
    have x5 := cell_heap (i := 5) hx rfl
    have x6 := cell_heap (i := 6) hx rfl
    clear hL hrk hbr hx
    by_cases e1 : vid = x
    · have hq := HRK.out
      rw [if_pos e1] at hq
      simp only [Option.some.injEq, Sec.mk.injEq] at hq
      obtain ⟨rfl, rfl, rfl, rfl, rfl, rfl, rfl⟩ := hq
      clear HRK HF
      subst e1
      go_wp2
      refine bodyPost_ret (v := .tuple #[.agg #[.int .i64 vid, .int .i64 vun, .int .i64 vis, .int .i64 vma, .int .i64 vra, .int .i64 vev, .bool vix], .bool true]) (by simp [results, Tryz.results50, go_sem, x0, x1, x2, x3, x4, x5, x6, zx]) rfl ⟨rfl, ?_⟩
      exact bal (bset7 HBR.out (by omega) _ _ _ _ _ _ _) _
    · have hrel2 := Lib.hid (show findS (R.secs.drop (k + 1)) x = some ⟨id, un, is, ma, ra, ev, ix⟩ by have := HRK.out; rw [if_neg e1] at this; exact this)
      have q1 : (vid == x) = false := by simpa using e1
      go_wp2
      go_roundw
      case rel => exact ⟨k + 1, by omega, by go_num, hrel2.out, bal HBR.out _, (heap_alloc_old _ _ (by omega)).trans HX.out⟩
      case measure => simp [intOf]; omega
set_option maxHeartbeats 4000000 in
theorem ffind_no (P : Nat → Prop) (vs vh vm : Value) (R : Reg) (x : Int) (w : World) (hr : RgIn P w vs vh vm R) (hlen : R.secs.length ≤ 1000000) (hf : findS R.secs x = none) :
    Calls Tryz.prog 50 #[.agg #[vs, vh, vm], .int .i64 x] w fun e w' => e = .returned (.tuple #[.agg #[.int .i64 0, .int .i64 0, .int .i64 0, .int .i64 0, .int .i64 0, .int .i64 0, .bool false], .bool false]) ∧ Below w.heap.size w w' := by
  obtain ⟨a0, n0, c0, rfl, hn0, -, -⟩ := hr.S.shape
  obtain ⟨a1, n1, c1, rfl, -, -, -⟩ := hr.H.shape
  obtain ⟨a2, n2, c2, rfl, -, -, -⟩ := hr.M.shape
  have hn1 : n0 ≤ 1000000 := by omega
  have HS := Lib.hid hr.S
  have HN := Lib.hid hn0
  have HF := Lib.hid hf
  clear hr hn0 hlen hf
  go_enter Tryz.func50, Tryz.ntmps50
  go_wp2
  go_loopw [11] (fun iv wr => ∃ k : Nat, k ≤ n0 ∧ iv = .int .i64 k ∧ findS (R.secs.drop k) x = none ∧ Below w.heap.size w wr ∧ wr.heap[w.heap.size + 1]? = some (.cells #[.int .i64 0, .int .i64 0, .int .i64 0, .int .i64 0, .int .i64 0, .int .i64 0, .bool false] 26 (0, 0))) (fun iv _ => n0 - (intOf iv).toNat)
  case atStart => exact ⟨0, by omega, rfl, by rw [List.drop_zero]; exact HF.out, bal (bal brefl _) _, heap_at (by simp)⟩
  case round =>
    obtain ⟨k, hk, rfl, hrk, hbr, hx⟩ := hrel
    have zr := hbr.size
    have zx : w.heap.size + 1 < wr.heap.size := (Array.getElem?_eq_some_iff.1 hx).1
    have HBR := Lib.hid hbr
    have HX := Lib.hid hx
    by_cases hlt : k < n0
    · obtain ⟨b, off, vid, vun, vis, vma, vra, vev, vix, rfl, -, hb', hL, k0, k1, k2, k3, k4, k5, k6⟩ := (HS.out.below hbr).sec hlt
      rw [drop_cons hL] at hrk
      simp only [findS] at hrk
      have e1 : vid ≠ x := by intro e; rw [if_pos e] at hrk; cases hrk
      rw [if_neg e1] at hrk
      have hrel2 := Lib.hid hrk
      have q1 : (vid == x) = false := by simpa using e1
      clear hL hrk hbr hx
      go_wp2
      go_roundw
      case rel => exact ⟨k + 1, by omega, by go_num, hrel2.out, bal HBR.out _, (heap_alloc_old _ _ (by omega)).trans HX.out⟩
      case measure => simp [intOf]; omega
    · have xf : ∀ i, wr.frozen? ⟨w.heap.size + 1, i, none⟩ = false := fun i => frozen_of_row wr _ _ _ _ hx
      have x0 := cell_heap (i := 0) hx rfl
      have x1 := cell_heap (i := 1) hx rfl
      have x2 := cell_heap (i := 2) hx rfl
      have x3 := cell_heap (i := 3) hx rfl
      have x4 := cell_heap (i := 4) hx rfl
      have x5 := cell_heap (i := 5) hx rfl
      have x6 := cell_heap (i := 6) hx rfl
      clear hrk hbr hx
      go_wp2
      refine bodyPost_ret (v := .tuple #[.agg #[.int .i64 0, .int .i64 0, .int .i64 0, .int .i64 0, .int .i64 0, .int .i64 0, .bool false], .bool false]) (by simp [results, Tryz.results50, go_sem, x0, x1, x2, x3, x4, x5, x6]) rfl ⟨rfl, ?_⟩
      exact bset7 HBR.out (by omega) _ _ _ _ _ _ _
end Go.Proofs.YthjaofgdickkaaaGreat
