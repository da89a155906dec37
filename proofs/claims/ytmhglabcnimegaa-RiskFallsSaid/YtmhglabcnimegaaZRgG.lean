/- treasury/risk's Greatest. -/
import Derived.Test.YtmhglabcnimegaaZRgM
import Derived.Test.YtmhglabcnimegaaZRegP
import Derived.Test.YtmhglabcnimegaaZRegJ
namespace Go.Proofs.Ytmhglabcnimegaa
open Go.RowKit
set_option linter.unusedVariables false
set_option linter.unusedSimpArgs false
def gtY (R : Reg) (y0 n : Int) : Int := if fsE R y0 n = 0 then (if mxL (fsL R y0 n) = 0 then 0 else y0 + ixL (fsL R y0 n) (mxL (fsL R y0 n))) else 0
def gtP (R : Reg) (y0 n : Int) : Int := if fsE R y0 n = 0 then (if mxL (fsL R y0 n) = 0 then 0 else mxL (fsL R y0 n) * 100 / rgDebt R) else 0
theorem fsE_zero {R : Reg} {y0 n : Int} (h : fsE R y0 n = 0) : RgOk R ∧ (0 ≤ y0 ∧ y0 ≤ 100) ∧ (1 ≤ n ∧ n ≤ 60) := by
  unfold fsE at h
  split at h
  · rename_i h1
    split at h
    · rename_i h2
      split at h
      · rename_i h3; exact ⟨chkE_iff.1 h1, inB_iff.1 h2, inB_iff.1 h3⟩
      · omega
    · omega
  · contradiction
theorem fsL_len {R : Reg} {y0 n : Int} (h : fsE R y0 n = 0) : (fsL R y0 n).length = n.toNat := by unfold fsL; rw [if_pos h]; simp
theorem fsL_at {R : Reg} {y0 n : Int} (h : fsE R y0 n = 0) {k : Nat} {x : Int} (hx : (fsL R y0 n)[k]? = some x) : x = fsF R y0 k := by
  unfold fsL at hx
  rw [if_pos h, List.getElem?_map] at hx
  cases hr : (List.range n.toNat)[k]? with
  | none => rw [hr] at hx; simp at hx
  | some j =>
    rw [hr] at hx
    simp only [Option.map_some, Option.some.injEq] at hx
    obtain ⟨hk, hj⟩ := List.getElem?_eq_some_iff.1 hr
    simp only [List.getElem_range] at hj
    rw [← hx, hj]
theorem fsL_bd {R : Reg} {y0 n : Int} (h : fsE R y0 n = 0) : ∀ x ∈ fsL R y0 n, 0 ≤ x ∧ x ≤ rgDebt R := by
  intro x hx
  obtain ⟨k, hk, he⟩ := List.mem_iff_getElem.1 hx
  rw [fsL_at h (List.getElem?_eq_some_iff.2 ⟨hk, he⟩)]
  have hok := (fsE_zero h).1
  have h1 := fall_bd hok (y0 + k)
  have h2 : sumF (fallF R (y0 + k)) R.hs ≤ sumF amtF R.hs := sumF_le fun x hx => by have := (hok.rh.amt x hx).1; unfold fallF amtF; split <;> omega
  rw [hok.tot.2.2] at h2
  exact ⟨h1.1, h2⟩
set_option maxHeartbeats 4000000 in
set_option maxRecDepth 100000 in
theorem greatest_any (P : Nat → Prop) (vs vh vm : Value) (R : Reg) (y0 n : Int) (w : World) (hr : RgIn P w vs vh vm R) (hS : R.secs.length ≤ 1000000) (hH : R.hs.length ≤ 1000000) (hM : R.ms.length ≤ 1000000) :
    Calls Try.prog 65 #[.agg #[vs, vh, vm], .int .i64 y0, .int .i64 n] w fun e w' => e = .returned (.tuple #[.int .i64 (gtY R y0 n), .int .i64 (gtP R y0 n), .int .i64 (fsE R y0 n)]) ∧ Below w.heap.size w w' := by
  obtain ⟨a0, n0, c0, rfl, -, -, -⟩ := hr.S.shape
  obtain ⟨a1, n1, c1, rfl, -, -, -⟩ := hr.H.shape
  obtain ⟨a2, n2, c2, rfl, -, -, -⟩ := hr.M.shape
  have HFS := Lib.hid (fun W (hW : Below w.heap.size w W) => falls_any P _ _ _ R y0 n W (hr.below (w' := W) hW) hS hH hM)
  have HDB := Lib.hid (fun W (hW : Below w.heap.size w W) => rdebt_any P _ _ _ R W (hr.below (w' := W) hW) hS hH hM)
  clear hr
  by_cases h0 : fsE R y0 n = 0
  rotate_left
  · have HY := Lib.hid (show gtY R y0 n = 0 by unfold gtY; rw [if_neg h0])
    have HP := Lib.hid (show gtP R y0 n = 0 by unfold gtP; rw [if_neg h0])
    obtain ⟨E, hE⟩ : ∃ E, fsE R y0 n = E := ⟨_, rfl⟩
    rw [hE] at h0 HFS ⊢
    have hE1 : (E != 0) = true := by simpa using h0
    have hE2 : (E == 0) = false := by simpa using h0
    clear hE
    go_enter Try.func65, Try.ntmps65
    go_wp2_with fail
    refine (HFS.out _ (bal brefl _)).mono ?_
    rintro e w1 ⟨v1, rfl, hown, hb1⟩
    obtain ⟨f1, k1, rfl⟩ := own_slice0 hown
    have HB1 := Lib.hid (bup (bal brefl _) hb1)
    clear hb1 hown
    go_wp2
    go_ret3
    exact ⟨by rw [HY.out, HP.out]; rfl, HB1.out⟩
  obtain ⟨hok, hy, hn⟩ := fsE_zero h0
  have hlen := fsL_len h0
  have hbd := fsL_bd h0
  have hmem := mxL_mem (L := fsL R y0 n) (by omega)
  have hix := ixL_lt hmem
  have hmb := hbd _ hmem
  have hdb := hok.tot
  rw [hdb.2.2] at hdb
  have HY := Lib.hid (show gtY R y0 n = if mxL (fsL R y0 n) = 0 then 0 else y0 + ixL (fsL R y0 n) (mxL (fsL R y0 n)) by unfold gtY; rw [if_pos h0])
  have HP := Lib.hid (show gtP R y0 n = if mxL (fsL R y0 n) = 0 then 0 else mxL (fsL R y0 n) * 100 / rgDebt R by unfold gtP; rw [if_pos h0])
  rw [h0] at HFS ⊢
  clear hbd h0
  obtain ⟨L, hL⟩ : ∃ L, fsL R y0 n = L := ⟨_, rfl⟩
  obtain ⟨D, hD⟩ : ∃ D, rgDebt R = D := ⟨_, rfl⟩
  rw [hL] at hlen hmem hix hmb HY HP HFS
  rw [hD] at HP hdb hmb HDB
  have HMA := Lib.hid (fun P v W (h : Sl 1 encI P W v L) => mxOf_any P v L W h (by omega) (by omega))
  have HIX := Lib.hid (fun P v W (h : Sl 1 encI P W v L) => ixOf_any P v L (mxL L) W h hmem (by omega))
  obtain ⟨m, hm⟩ : ∃ m, mxL L = m := ⟨_, rfl⟩
  rw [hm] at HMA HIX hix hmb HY HP
  obtain ⟨i, hi⟩ : ∃ i, ixL L m = i := ⟨_, rfl⟩
  rw [hi] at HIX hix HY
  clear hL hD hm hi hmem
  go_enter Try.func65, Try.ntmps65
  go_wp2_with fail
  refine (HFS.out _ (bal brefl _)).mono ?_
  rintro e w1 ⟨v1, rfl, hown, hb1⟩
  have r0 := (show w1.cell? ⟨w.heap.size, 0, none⟩ = some (.slice a0 n0 c0) from boxed_cell hb1 0 rfl)
  have r1 := (show w1.cell? ⟨w.heap.size, 1, none⟩ = some (.slice a1 n1 c1) from boxed_cell hb1 1 rfl)
  have r2 := (show w1.cell? ⟨w.heap.size, 2, none⟩ = some (.slice a2 n2 c2) from boxed_cell hb1 2 rfl)
  rw [hlen] at hown
  obtain ⟨f1, k1, rfl⟩ := own_slice0 hown
  have HB1 := Lib.hid (bup (bal brefl _) hb1)
  have ho1 : Sl 1 encI (fun _ => True) w1 (.slice f1 n.toNat k1) L := Sl.own encI_len hown hlen (fun _ _ => trivial)
  have HO1 := Lib.hid ho1
  clear hb1 hown ho1
  go_wp2_with fail
  refine (HMA.out _ _ _ HO1.out).mono ?_
  rintro e w2 ⟨rfl, rfl⟩
  by_cases hz : m = 0
  · subst hz
    go_wp2
    go_ret3
    exact ⟨by rw [HY.out, HP.out]; rfl, HB1.out⟩
  · have hz1 : (m == 0) = false := by simpa using hz
    have hz2 : (m != 0) = true := by simpa using hz
    rw [if_neg hz] at HY HP
    go_upto_region 7 with fail
    have hdp : 0 < D := by omega
    have hd0 : D ≠ 0 := by omega
    have u0 := up_cell r0
    have u1 := up_cell r1
    have u2 := up_cell r2
    have hw1 : IntKind.i64.wrap (m * 100) = m * 100 := IntWalk.i64_in _ (by omega)
    have hw3 : (m * 100).tdiv D = m * 100 / D := Int.tdiv_eq_ediv_of_nonneg (by omega)
    (refine wp_region_up (by kernel_rfl) (by kernel_rfl) ?_); (repeat (go_big_quiet_step ((first | (go_at_call 124; refine (HIX.out _ _ _ (HO1.out.below (Subtype.property _))).mono ?_; exact fun _ _ hh => ⟨hh.1, ⟨_, hh.2.symm⟩⟩) | (go_at_call 32; refine (HDB.out _ (bup HB1.out (Subtype.property _))).mono ?_; exact fun _ _ hh => ⟨hh.1, ⟨_, bup (Subtype.property _) hh.2⟩, rfl⟩))))); (refine wpQuiet_nil ?_); (rintro w3 ⟨⟨_, hb3⟩, rfl⟩)
    go_wp2
    go_ret3
    have hq0 : 0 ≤ m * 100 / D := Int.ediv_nonneg (by omega) (by omega)
    have hq1 : m * 100 / D ≤ m * 100 := Int.ediv_le_self _ (by omega)
    have hqi : -9223372036854775808 ≤ m * 100 / D ∧ m * 100 / D ≤ 9223372036854775807 := ⟨by omega, by omega⟩
    have hw4 : wrap64 (m * 100 / D) = m * 100 / D := IntWalk.wrap64_in _ hqi
    refine ⟨?_, bup HB1.out hb3⟩
    rw [HY.out, HP.out]
    show Ending.returned (.tuple #[.int .i64 (y0 + i), .int .i64 (wrap64 (m * 100 / D)), .int .i64 0]) = _
    rw [hw4]
end Go.Proofs.Ytmhglabcnimegaa
