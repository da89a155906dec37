/- treasury/risk's Greatest. treasury/risk's Term. treasury/risk's Cost. -/
import Derived.Test.YtpoidaenkjjdfaaZRgM
import Derived.Test.YtpoidaenkjjdfaaZRegP
import Derived.Test.YtpoidaenkjjdfaaZRegJ
import Derived.Test.YtpoidaenkjjdfaaZRgR
import Derived.Test.YtpoidaenkjjdfaaZRgL
import Derived.BigRegionIn
import Derived.Test.YtpoidaenkjjdfaaZSrcBent
import Derived.Deep.RegionHeld
import Derived.IntWalk
import Derived.Test.YtpoidaenkjjdfaaZL39P
import Derived.BigQuiet
namespace Go.Proofs.Ytpoidaenkjjdfaa
open Go.RowKit
set_option linter.unusedVariables false
set_option linter.unusedSimpArgs false
def gtY (R : Reg) (y0 n : Int) : Int := if fsE R y0 n = 0 then (if mxL (fsL R y0 n) = 0 then 0 else y0 + ixL (fsL R y0 n) (mxL (fsL R y0 n))) else 0
def gtP (R : Reg) (y0 n : Int) : Int := if fsE R y0 n = 0 then (if mxL (fsL R y0 n) = 0 then 0 else mxL (fsL R y0 n) * 100 / rgDebt R) else 0
theorem fsE_zero {R : Reg} {y0 n : Int} (h : fsE R y0 n = 0) : RgOk R ∧ (0 ≤ y0 ∧ y0 ≤ 100) ∧ (1 ≤ n ∧ n ≤ 60) := by
  unfold fsE at h
  split at h
  · rename_i h1
    split at h
    · rename_i h2
      split at h
      · rename_i h3; exact ⟨chkE_iff.1 h1, inB_iff.1 h2, inB_iff.1 h3⟩
      · omega
    · omega
  · contradiction
theorem fsL_len {R : Reg} {y0 n : Int} (h : fsE R y0 n = 0) : (fsL R y0 n).length = n.toNat := by unfold fsL; rw [if_pos h]; simp
theorem fsL_at {R : Reg} {y0 n : Int} (h : fsE R y0 n = 0) {k : Nat} {x : Int} (hx : (fsL R y0 n)[k]? = some x) : x = fsF R y0 k := by
  unfold fsL at hx
  rw [if_pos h, List.getElem?_map] at hx
  cases hr : (List.range n.toNat)[k]? with
  | none => rw [hr] at hx; simp at hx
  | some j =>
    rw [hr] at hx
    simp only [Option.map_some, Option.some.injEq] at hx
    obtain ⟨hk, hj⟩ := List.getElem?_eq_some_iff.1 hr
    simp only [List.getElem_range] at hj
    rw [← hx, hj]
theorem fsL_bd {R : Reg} {y0 n : Int} (h : fsE R y0 n = 0) : ∀ x ∈ fsL R y0 n, 0 ≤ x ∧ x ≤ rgDebt R := by
  intro x hx
  obtain ⟨k, hk, he⟩ := List.mem_iff_getElem.1 hx
  rw [fsL_at h (List.getElem?_eq_some_iff.2 ⟨hk, he⟩)]
  have hok := (fsE_zero h).1
  have h1 := fall_bd hok (y0 + k)
  have h2 : sumF (fallF R (y0 + k)) R.hs ≤ sumF amtF R.hs := sumF_le fun x hx => by have := (hok.rh.amt x hx).1; unfold fallF amtF; split <;> omega
  rw [hok.tot.2.2] at h2
  exact ⟨h1.1, h2⟩
set_option maxHeartbeats 4000000 in
set_option maxRecDepth 100000 in
theorem greatest_any (P : Nat → Prop) (vs vh vm : Value) (R : Reg) (y0 n : Int) (w : World) (hr : RgIn P w vs vh vm R) (hS : R.secs.length ≤ 1000000) (hH : R.hs.length ≤ 1000000) (hM : R.ms.length ≤ 1000000) :
    Calls Try.prog 61 #[.agg #[vs, vh, vm], .int .i64 y0, .int .i64 n] w fun e w' => e = .returned (.tuple #[.int .i64 (gtY R y0 n), .int .i64 (gtP R y0 n), .int .i64 (fsE R y0 n)]) ∧ Below w.heap.size w w' := by
  obtain ⟨a0, n0, c0, rfl, -, -, -⟩ := hr.S.shape
  obtain ⟨a1, n1, c1, rfl, -, -, -⟩ := hr.H.shape
  obtain ⟨a2, n2, c2, rfl, -, -, -⟩ := hr.M.shape
  have HFS := Lib.hid (fun W (hW : Below w.heap.size w W) => falls_any P _ _ _ R y0 n W (hr.below (w' := W) hW) hS hH hM)
  have HDB := Lib.hid (fun W (hW : Below w.heap.size w W) => rdebt_any P _ _ _ R W (hr.below (w' := W) hW) hS hH hM)
  clear hr
  by_cases h0 : fsE R y0 n = 0
  rotate_left
  · have HY := Lib.hid (show gtY R y0 n = 0 by unfold gtY; rw [if_neg h0])
    have HP := Lib.hid (show gtP R y0 n = 0 by unfold gtP; rw [if_neg h0])
    obtain ⟨E, hE⟩ : ∃ E, fsE R y0 n = E := ⟨_, rfl⟩
    rw [hE] at h0 HFS ⊢
    have hE1 : (E != 0) = true := by simpa using h0
    have hE2 : (E == 0) = false := by simpa using h0
    clear hE
    go_enter Try.func61, Try.ntmps61
    go_wp2_with fail
    refine (HFS.out _ (bal brefl _)).mono ?_
    rintro e w1 ⟨v1, rfl, hown, hb1⟩
    obtain ⟨f1, k1, rfl⟩ := own_slice0 hown
    have HB1 := Lib.hid (bup (bal brefl _) hb1)
    clear hb1 hown
    go_wp2
    go_ret3
    exact ⟨by rw [HY.out, HP.out]; rfl, HB1.out⟩
  obtain ⟨hok, hy, hn⟩ := fsE_zero h0
  have hlen := fsL_len h0
  have hbd := fsL_bd h0
  have hmem := mxL_mem (L := fsL R y0 n) (by omega)
  have hix := ixL_lt hmem
  have hmb := hbd _ hmem
  have hdb := hok.tot
  rw [hdb.2.2] at hdb
  have HY := Lib.hid (show gtY R y0 n = if mxL (fsL R y0 n) = 0 then 0 else y0 + ixL (fsL R y0 n) (mxL (fsL R y0 n)) by unfold gtY; rw [if_pos h0])
  have HP := Lib.hid (show gtP R y0 n = if mxL (fsL R y0 n) = 0 then 0 else mxL (fsL R y0 n) * 100 / rgDebt R by unfold gtP; rw [if_pos h0])
  rw [h0] at HFS ⊢
  clear hbd h0
  obtain ⟨L, hL⟩ : ∃ L, fsL R y0 n = L := ⟨_, rfl⟩
  obtain ⟨D, hD⟩ : ∃ D, rgDebt R = D := ⟨_, rfl⟩
  rw [hL] at hlen hmem hix hmb HY HP HFS
  rw [hD] at HP hdb hmb HDB
  have HMA := Lib.hid (fun P v W (h : Sl 1 encI P W v L) => mxOf_any P v L W h (by omega) (by omega))
  have HIX := Lib.hid (fun P v W (h : Sl 1 encI P W v L) => ixOf_any P v L (mxL L) W h hmem (by omega))
  obtain ⟨m, hm⟩ : ∃ m, mxL L = m := ⟨_, rfl⟩
  rw [hm] at HMA HIX hix hmb HY HP
  obtain ⟨i, hi⟩ : ∃ i, ixL L m = i := ⟨_, rfl⟩
  rw [hi] at HIX hix HY
  clear hL hD hm hi hmem
  go_enter Try.func61, Try.ntmps61
  go_wp2_with fail
  refine (HFS.out _ (bal brefl _)).mono ?_
  rintro e w1 ⟨v1, rfl, hown, hb1⟩
  have r0 := (show w1.cell? ⟨w.heap.size, 0, none⟩ = some (.slice a0 n0 c0) from boxed_cell hb1 0 rfl)
  have r1 := (show w1.cell? ⟨w.heap.size, 1, none⟩ = some (.slice a1 n1 c1) from boxed_cell hb1 1 rfl)
  have r2 := (show w1.cell? ⟨w.heap.size, 2, none⟩ = some (.slice a2 n2 c2) from boxed_cell hb1 2 rfl)
  rw [hlen] at hown
  obtain ⟨f1, k1, rfl⟩ := own_slice0 hown
  have HB1 := Lib.hid (bup (bal brefl _) hb1)
  have ho1 : Sl 1 encI (fun _ => True) w1 (.slice f1 n.toNat k1) L := Sl.own encI_len hown hlen (fun _ _ => trivial)
  have HO1 := Lib.hid ho1
  clear hb1 hown ho1
  go_wp2_with fail
  refine (HMA.out _ _ _ HO1.out).mono ?_
  rintro e w2 ⟨rfl, rfl⟩
  by_cases hz : m = 0
  · subst hz
    go_wp2
    go_ret3
    exact ⟨by rw [HY.out, HP.out]; rfl, HB1.out⟩
  · have hz1 : (m == 0) = false := by simpa using hz
    have hz2 : (m != 0) = true := by simpa using hz
    rw [if_neg hz] at HY HP
    go_upto_region 7 with fail
    have hdp : 0 < D := by omega
    have hd0 : D ≠ 0 := by omega
    have u0 := up_cell r0
    have u1 := up_cell r1
    have u2 := up_cell r2
    have hw1 : IntKind.i64.wrap (m * 100) = m * 100 := IntWalk.i64_in _ (by omega)
    have hw3 : (m * 100).tdiv D = m * 100 / D := Int.tdiv_eq_ediv_of_nonneg (by omega)
    (refine wp_region_up (by kernel_rfl) (by kernel_rfl) ?_); (repeat (go_big_quiet_step ((first | (go_at_call 114; refine (HIX.out _ _ _ (HO1.out.below (Subtype.property _))).mono ?_; exact fun _ _ hh => ⟨hh.1, ⟨_, hh.2.symm⟩⟩) | (go_at_call 19; refine (HDB.out _ (bup HB1.out (Subtype.property _))).mono ?_; exact fun _ _ hh => ⟨hh.1, ⟨_, bup (Subtype.property _) hh.2⟩, rfl⟩))))); (refine wpQuiet_nil ?_); (rintro w3 ⟨⟨_, hb3⟩, rfl⟩)
    go_wp2
    go_ret3
    have hq0 : 0 ≤ m * 100 / D := Int.ediv_nonneg (by omega) (by omega)
    have hq1 : m * 100 / D ≤ m * 100 := Int.ediv_le_self _ (by omega)
    have hqi : -9223372036854775808 ≤ m * 100 / D ∧ m * 100 / D ≤ 9223372036854775807 := ⟨by omega, by omega⟩
    have hw4 : wrap64 (m * 100 / D) = m * 100 / D := IntWalk.wrap64_in _ hqi
    refine ⟨?_, bup HB1.out hb3⟩
    rw [HY.out, HP.out]
    show Ending.returned (.tuple #[.int .i64 (y0 + i), .int .i64 (wrap64 (m * 100 / D)), .int .i64 0]) = _
    rw [hw4]
end Go.Proofs.Ytpoidaenkjjdfaa
namespace Go.Proofs.Ytpoidaenkjjdfaa
open Go.RowKit Go.Shelf
set_option linter.unusedVariables false
set_option linter.unusedSimpArgs false
attribute [local go_sem] Oper.semAt_some
def tmN (R : Reg) (day : Int) (x : Hold) : Int := if day < (secOf R x).ma then x.a * ((secOf R x).ma - day) else 0
def tmD (R : Reg) (day : Int) (x : Hold) : Int := if day < (secOf R x).ma then x.a else 0
def tmE (R : Reg) (day : Int) : Int := if chkE R = 0 then (if inB day 0 36000 then 0 else 2) else chkE R
def tmNum (R : Reg) (day : Int) : Int := if tmE R day = 0 then sumF (tmN R day) R.hs else 0
def tmDen (R : Reg) (day : Int) : Int := if tmE R day = 0 then sumF (tmD R day) R.hs else 0
def TmW (R : Reg) (day : Int) (w : World) (e : Ending) (w' : World) : Prop := e = .returned (.tuple #[.int .i64 (tmNum R day), .int .i64 (tmDen R day), .int .i64 (tmE R day)]) ∧ Below w.heap.size w w'
theorem sumF_mul {α : Type} (c : Int) (f : α → Int) : ∀ L : List α, sumF (fun x => c * f x) L = c * sumF f L
  | [] => by simp [sumF]
  | x :: L => by simp only [sumF, sumF_mul c f L, Int.mul_add]
theorem sumF_part {α : Type} {f : α → Int} : ∀ {L : List α} (k : Nat), (∀ x ∈ L, 0 ≤ f x) → 0 ≤ sumF f (L.take k) ∧ sumF f (L.take k) ≤ sumF f L
  | [], _, _ => by simp [sumF]
  | x :: L, 0, h => by
    have h1 := h x (List.mem_cons_self ..)
    have h2 := sumF_part (L := L) 0 fun y hy => h y (List.mem_cons_of_mem _ hy)
    simp only [List.take_zero, sumF] at *; omega
  | x :: L, k + 1, h => by
    have h1 := h x (List.mem_cons_self ..)
    have h2 := sumF_part (L := L) k fun y hy => h y (List.mem_cons_of_mem _ hy)
    simp only [List.take_succ_cons, sumF] at *; omega
theorem tmN_bd {R : Reg} (h : RgOk R) {day : Int} (h0 : 0 ≤ day) : ∀ x ∈ R.hs, 0 ≤ tmN R day x ∧ tmN R day x ≤ 36000 * amtF x := fun x hx => by
  have ha := h.rh.amt x hx
  have hs := (h.rh.sec x hx).ma2
  unfold tmN amtF
  split
  · have := Int.mul_le_mul_of_nonneg_left (show (secOf R x).ma - day ≤ 36000 by omega) ha.1
    have := Int.mul_nonneg ha.1 (show 0 ≤ (secOf R x).ma - day by omega)
    omega
  · omega
theorem tmN_tot {R : Reg} (h : RgOk R) {day : Int} (h0 : 0 ≤ day) (k : Nat) : 0 ≤ sumF (tmN R day) (R.hs.take k) ∧ sumF (tmN R day) (R.hs.take k) ≤ 720000000000000000 := by
  have h1 := sumF_part (f := tmN R day) (L := R.hs) k fun x hx => (tmN_bd h h0 x hx).1
  have h2 : sumF (tmN R day) R.hs ≤ sumF (fun x => 36000 * amtF x) R.hs := sumF_le fun x hx => (tmN_bd h h0 x hx).2
  rw [sumF_mul] at h2
  have := h.tot
  omega
theorem tmD_tot {R : Reg} (h : RgOk R) (day : Int) (k : Nat) : 0 ≤ sumF (tmD R day) (R.hs.take k) ∧ sumF (tmD R day) (R.hs.take k) ≤ 20000000000000 := by
  have h1 := sumF_part (f := tmD R day) (L := R.hs) k fun x hx => by have := (h.rh.amt x hx).1; unfold tmD; split <;> omega
  have h2 : sumF (tmD R day) R.hs ≤ sumF amtF R.hs := sumF_le fun x hx => by have := (h.rh.amt x hx).1; unfold tmD amtF; split <;> omega
  have := h.tot
  omega
theorem keep_boxN {w w' : World} {b : Nat} {o : Obj} (hb : Below w.heap.size w w') (h : w.heap[b]? = some o) : w'.heap[b]? = some o := (hb.block b (Array.getElem?_eq_some_iff.1 h).1).trans h
theorem boxed_put {W : World} {B D : Nat} {t : TypeId} {v : Value} {o : Obj} (h : Boxed W B t v) (hne : B ≠ D) : Boxed (W.putObj D o) B t v := (World.putObj_heap_other (by omega)).trans h
theorem keep_heap3 {w : World} {b : Nat} {o o1 o2 o3 : Obj} (h : w.heap[b]? = some o) : (((w.alloc o1).alloc o2).alloc o3).heap[b]? = some o :=
  keep_boxN (w := w) (bal (bal (bal brefl _) _) _) h
set_option maxHeartbeats 4000000 in
set_option maxRecDepth 100000 in
theorem term_any (P : Nat → Prop) (vs vh vm : Value) (R : Reg) (day : Int) (w : World) (hr : RgIn P w vs vh vm R) (hS : R.secs.length ≤ 1000000) (hH : R.hs.length ≤ 1000000) (hM : R.ms.length ≤ 1000000) :
    Calls Try.prog 63 #[.agg #[vs, vh, vm], .int .i64 day] w (TmW R day w) := by
  have HR := Lib.hid (hr.mono (Q := fun b => b < w.heap.size) fun b _ h => h)
  clear hr
  refine (callsIn_wide (n := 3)).1 ?_
  refine callsIn_of_wp_marks Try.func63 rfl trivial ?_ rfl
  obtain ⟨a0, n0, c0, rfl, -, -, -⟩ := HR.out.S.shape
  obtain ⟨a1, n1, c1, rfl, -, -, -⟩ := HR.out.H.shape
  obtain ⟨a2, n2, c2, rfl, -, -, -⟩ := HR.out.M.shape
  have HC := Lib.hid (fun W (hW : Below w.heap.size w W) => check_any _ _ _ _ R W (HR.out.below (w' := W) hW) hS hH hM)
  simp only [Try.ntmps63, List.size_toArray, List.length_cons, List.length_nil, Nat.reduceAdd, Nat.reduceSub, Array.replicate_succ, Array.replicate_zero, List.push_toArray, List.append_toArray, List.nil_append, List.cons_append]
  gi_wp2_with fail
  obtain ⟨W0, hW0⟩ : ∃ W0, (((w.alloc (Obj.cells #[Value.slice a0 n0 c0, Value.slice a1 n1 c1, Value.slice a2 n2 c2] 27)).alloc (Obj.cells #[Value.int IntKind.i64 day] 3)).alloc (Obj.cells #[Value.int IntKind.i64 0] 3)).alloc (Obj.cells #[Value.int IntKind.i64 0] 3) = W0 := ⟨_, rfl⟩
  have hb0 : Below w.heap.size w W0 := by rw [← hW0]; exact bal (bal (bal (bal brefl _) _) _) _
  have hs0 : W0.heap.size = w.heap.size + 4 := by rw [← hW0]; simp
  have hr0 : W0.heap[w.heap.size]? = some (Obj.cells #[Value.slice a0 n0 c0, Value.slice a1 n1 c1, Value.slice a2 n2 c2] 27) := by
    rw [← hW0]; exact keep_heap3 (World.alloc_heap_new _ _)
  have hy0 : Boxed W0 (w.heap.size + 1) 3 (.int .i64 day) := by
    rw [← hW0]; have := Boxed.new (w.alloc (Obj.cells #[Value.slice a0 n0 c0, Value.slice a1 n1 c1, Value.slice a2 n2 c2] 27)) 3 (.int .i64 day); rw [World.size_alloc] at this; exact (this.alloc _).alloc _
  have hn0 : Boxed W0 (w.heap.size + 1 + 1) 3 (.int .i64 0) := by
    rw [← hW0]; have := Boxed.new ((w.alloc (Obj.cells #[Value.slice a0 n0 c0, Value.slice a1 n1 c1, Value.slice a2 n2 c2] 27)).alloc (Obj.cells #[Value.int IntKind.i64 day] 3)) 3 (.int .i64 0); rw [World.size_alloc, World.size_alloc] at this; exact this.alloc _
  have hd0 : Boxed W0 (w.heap.size + 1 + 1 + 1) 3 (.int .i64 0) := by
    rw [← hW0]; have := Boxed.new (((w.alloc (Obj.cells #[Value.slice a0 n0 c0, Value.slice a1 n1 c1, Value.slice a2 n2 c2] 27)).alloc (Obj.cells #[Value.int IntKind.i64 day] 3)).alloc (Obj.cells #[Value.int IntKind.i64 0] 3)) 3 (.int .i64 0); rw [World.size_alloc, World.size_alloc, World.size_alloc] at this; exact this
  rw [hW0]
  clear hW0
  refine ⟨trivial, (callsIn_wide.2 (HC.out _ hb0)).mono ?_⟩
  rintro e w1 ⟨rfl, hb1⟩
  have z1 := hb1.size
  have hB1 := bup hb0 hb1
  have hr1 := keep_boxN hb1 hr0
  have hy1 : Boxed w1 (w.heap.size + 1) 3 (.int .i64 day) := keep_boxN hb1 hy0
  have hn1' : Boxed w1 (w.heap.size + 1 + 1) 3 (.int .i64 0) := keep_boxN hb1 hn0
  have hd1 : Boxed w1 (w.heap.size + 1 + 1 + 1) 3 (.int .i64 0) := keep_boxN hb1 hd0
  clear hr0 hy0 hn0 hd0 hb1 hb0
  have g0 := cell_heap (i := 0) hr1 rfl
  have g1 := cell_heap (i := 1) hr1 rfl
  have g2 := cell_heap (i := 2) hr1 rfl
  have gy := hy1.cell
  have gn := hn1'.cell
  have gd := hd1.cell
  have fn := hn1'.frozen
  have fd := hd1.frozen
  obtain ⟨E0, hE0⟩ : ∃ E, chkE R = E := ⟨_, rfl⟩
  obtain ⟨yb, hyb⟩ : ∃ b, inB day 0 36000 = b := ⟨_, rfl⟩
  have hpe : tmE R day = if E0 = 0 then (if yb then 0 else 2) else E0 := by unfold tmE; rw [hE0, hyb]
  have HYB := Lib.hid (fun (W : World) => calvalid_any day W)
  rw [hyb] at HYB
  rw [hE0]
  by_cases h0 : E0 = 0
  rotate_left
  · have hE1 : (E0 != 0) = true := by simpa using h0
    have hE2 : (E0 == 0) = false := by simpa using h0
    rw [if_neg h0] at hpe
    have HN := Lib.hid (show tmNum R day = 0 by unfold tmNum; rw [hpe, if_neg h0])
    have HD := Lib.hid (show tmDen R day = 0 by unfold tmDen; rw [hpe, if_neg h0])
    have HE := Lib.hid hpe
    clear hpe hE0 hyb
    gi_wp2
    have bn := (hn1'.set (.int .i64 0)).other (B' := w.heap.size + 1 + 1 + 1) (by omega) (.int .i64 0)
    have bd := (hd1.other (B' := w.heap.size + 1 + 1) (by omega) (.int .i64 0)).set (.int .i64 0)
    have cn := bn.cell
    have cd := bd.cell
    refine ⟨.tuple #[.int .i64 0, .int .i64 0, .int .i64 E0], by simp [results, Try.results63, go_sem, cn, cd], ⟨by rw [HN.out, HD.out, HE.out], (bset (bset hB1 (by simp; omega) _) (by simp; omega) _)⟩⟩
  subst h0
  cases yb
  · rw [if_pos rfl] at hpe
    simp only [Bool.false_eq_true, if_false] at hpe
    have HN := Lib.hid (show tmNum R day = 0 by unfold tmNum; rw [hpe]; rfl)
    have HD := Lib.hid (show tmDen R day = 0 by unfold tmDen; rw [hpe]; rfl)
    have HE := Lib.hid hpe
    clear hpe hE0 hyb
    gi_wp2_with fail
    refine ⟨trivial, (callsIn_wide.2 (HYB.out _)).mono ?_⟩
    rintro e w2 ⟨rfl, rfl⟩
    gi_wp2
    have bn := (hn1'.set (.int .i64 0)).other (B' := w.heap.size + 1 + 1 + 1) (by omega) (.int .i64 0)
    have bd := (hd1.other (B' := w.heap.size + 1 + 1) (by omega) (.int .i64 0)).set (.int .i64 0)
    have cn := bn.cell
    have cd := bd.cell
    refine ⟨.tuple #[.int .i64 0, .int .i64 0, .int .i64 2], by simp [results, Try.results63, go_sem, cn, cd], ⟨by rw [HN.out, HD.out, HE.out], (bset (bset hB1 (by simp; omega) _) (by simp; omega) _)⟩⟩
  gi_wp2_with fail
  refine ⟨trivial, (callsIn_wide.2 (HYB.out _)).mono ?_⟩
  rintro e w2 ⟨rfl, rfl⟩
  gi_wp2_with fail
  simp only [if_true] at hpe
  have HN := Lib.hid (show tmNum R day = sumF (tmN R day) R.hs by unfold tmNum; rw [hpe]; rfl)
  have HD := Lib.hid (show tmDen R day = sumF (tmD R day) R.hs by unfold tmDen; rw [hpe]; rfl)
  have HE := Lib.hid hpe
  have hok := chkE_iff.1 hE0
  have HOK := Lib.hid hok
  have hday := inB_iff.1 hyb
  clear hpe hE0 hyb g0 g1 g2 gy gn gd fn fd hr1
  refine wpIn_rangeB (N := w.heap.size) (xs := R.hs) (encs := encE R) rfl (by omega) rfl trivial (enters_of Try.func116 (by kernel_rfl) rfl) (by omega)
    (each_stops (3 - 1) w.heap.size _ _ _ R w1 (HR.out.belowN hB1) (by omega) hS hH) (fun _ => rfl)
    (fun k W => Boxed W (w.heap.size + 1 + 1) 3 (.int .i64 (sumF (tmN R day) (R.hs.take k))) ∧ Boxed W (w.heap.size + 1 + 1 + 1) 3 (.int .i64 (sumF (tmD R day) (R.hs.take k))) ∧ Boxed W (w.heap.size + 1) 3 (.int .i64 day) ∧ Below w.heap.size w W)
    (fun k A B h hb => ⟨(hb.block _ (by omega)).trans h.1, (hb.block _ (by omega)).trans h.2.1, (hb.block _ (by omega)).trans h.2.2.1, h.2.2.2.trans (hb.mono (by omega))⟩)
    ⟨hn1', hd1, hy1, hB1⟩
    (fun x a' W => ∃ b1 b2, w1.heap.size + 2 ≤ b1 ∧ w1.heap.size + 2 ≤ b2 ∧ a' = { tmps := #[Value.agg #[Value.slice a0 n0 c0, Value.slice a1 n1 c1, Value.slice a2 n2 c2], Value.int IntKind.i64 day, Value.pointer (some ⟨w.heap.size, 0, none⟩), Value.pointer (some ⟨w.heap.size + 1, 0, none⟩), Value.pointer (some ⟨w.heap.size + 1 + 1, 0, none⟩), Value.pointer (some ⟨w.heap.size + 1 + 1 + 1, 0, none⟩), Value.int IntKind.i64 0, Value.int IntKind.i64 0, Value.pointer (some ⟨b1, 0, none⟩), Value.pointer (some ⟨b2, 0, none⟩), Value.agg #[Value.slice a0 n0 c0, Value.slice a1 n1 c1, Value.slice a2 n2 c2], Value.int IntKind.i64 0, Value.int IntKind.i64 0, Value.bool false, undef, Value.int IntKind.i64 day, Value.bool true, Value.bool false, Value.agg #[Value.slice a0 n0 c0, Value.slice a1 n1 c1, Value.slice a2 n2 c2], Value.agg #[Value.slice a0 n0 c0, Value.slice a1 n1 c1, Value.slice a2 n2 c2], Value.func (Fn.func 116) #[Value.agg #[Value.slice a0 n0 c0, Value.slice a1 n1 c1, Value.slice a2 n2 c2]] #[], aggSec (secOf R x), aggHold x, undef, undef, undef, undef, undef, undef, undef, undef, undef, undef, undef, undef, undef, undef, undef, undef, undef, undef, undef], defers := [] } ∧
      W.heap[b1]? = some (.cells (encSec (secOf R x)).toArray 29 (0, 0)) ∧ W.heap[b2]? = some (.cells (encHold x).toArray 98 (0, 0)))
    (fun x a' A B h hb hl => by
      obtain ⟨b1, b2, h1, h2, h3, h4, h5⟩ := h
      exact ⟨b1, b2, h1, h2, h3, (hb _ (by omega) (Array.getElem?_eq_some_iff.1 h4).1).trans h4, (hb _ (by omega) (Array.getElem?_eq_some_iff.1 h5).1).trans h5⟩)
    ?assign ?body ?done
  case assign =>
    intro l k x W K hsz hK
    simp only [encE, aggSec, aggHold]
    gi_wp2
    refine hK _ _ (bal (bal brefl _) _) ⟨W.heap.size, W.heap.size + 1, by omega, by omega, rfl, ?_, ?_⟩
    · exact (Below.heap_alloc _ _ _ (by simp)).trans (World.alloc_heap_new W _)
    · have := World.alloc_heap_new (W.alloc (Obj.cells (encSec (secOf R x)).toArray 29 (0, 0))) (Obj.cells (encHold x).toArray 98 (0, 0)); rw [World.size_alloc] at this; exact this
  case body =>
    rintro l k x a' W hsz hx ⟨hn, hd, hy, hb⟩ ⟨b1, b2, h1, h2, rfl, h4, h5⟩
    have hm : x ∈ R.hs := List.mem_of_getElem? hx
    have hTb := tmN_tot HOK.out hday.1 k
    have hTb2 := tmN_tot HOK.out hday.1 (k + 1)
    have hUb := tmD_tot HOK.out day k
    have hT2 := sumF_take (f := tmN R day) hx
    have hU2 := sumF_take (f := tmD R day) hx
    have ham := HOK.out.rh.amt x hm
    have hma2 := (HOK.out.rh.sec x hm).ma2
    have htn := tmN_bd HOK.out hday.1 x hm
    obtain ⟨m, hm'⟩ : ∃ m, (secOf R x).ma = m := ⟨_, rfl⟩
    have hNx : tmN R day x = if day < m then x.a * (m - day) else 0 := by unfold tmN; rw [hm']
    have hDx : tmD R day x = if day < m then x.a else 0 := by unfold tmD; rw [hm']
    rw [hT2] at hTb2
    obtain ⟨T, hT⟩ : ∃ T, sumF (tmN R day) (R.hs.take k) = T := ⟨_, rfl⟩
    obtain ⟨U, hU⟩ : ∃ T, sumF (tmD R day) (R.hs.take k) = T := ⟨_, rfl⟩
    rw [hT] at hn hT2 hTb hTb2
    rw [hU] at hd hU2 hUb
    rw [hNx] at hT2 hTb2 htn
    rw [hDx] at hU2
    rw [hm'] at hma2
    have HS := Lib.hid hT2
    have HU := Lib.hid hU2
    have hma : W.cell? ⟨b1, 3, none⟩ = some (.int .i64 m) := by rw [← hm']; unfold World.cell?; simp [h4, encSec]
    have hxa : W.cell? ⟨b2, 2, none⟩ = some (.int .i64 x.a) := by unfold World.cell?; simp [h5, encHold]
    have hyc := hy.cell
    have hnc := hn.cell
    have hnf := hn.frozen
    have hdc := hd.cell
    have hdf := hd.frozen
    have HC := Lib.hid hn
    have HDD := Lib.hid hd
    have HYY := Lib.hid hy
    have HB := Lib.hid hb
    have hs2 : w.heap.size + 1 + 1 + 1 < W.heap.size := by omega
    have hl1 : b1 < W.heap.size := (Array.getElem?_eq_some_iff.1 h4).1
    have hl2 : b2 < W.heap.size := (Array.getElem?_eq_some_iff.1 h5).1
    clear hT hU hT2 hU2 hNx hDx hm' h4 h5 hn hd hy hb hx hn1' hd1 hy1 hB1
    have hfol : Try.prog.follows .mixedOrders = true := by kernel_rfl
    by_cases hdm : day < m
    · rw [if_pos hdm] at hTb2 htn
      have hw1 : IntKind.i64.wrap (x.a * (m - day)) = x.a * (m - day) := IntWalk.i64_in _ (by unfold amtF at htn; omega)
      have hw2 : IntKind.i64.wrap (T + x.a * (m - day)) = T + x.a * (m - day) := IntWalk.i64_in _ (by omega)
      have hw3 : IntKind.i64.wrap (U + x.a) = U + x.a := IntWalk.i64_in _ (by omega)
      have HS2 := Lib.hid (show sumF (tmN R day) (R.hs.take (k + 1)) = T + x.a * (m - day) by rw [HS.out, if_pos hdm])
      have HU2 := Lib.hid (show sumF (tmD R day) (R.hs.take (k + 1)) = U + x.a by rw [HU.out, if_pos hdm])
      clear HS HU htn
      gi_wp2_with fail
      -- FLOW
      have kA : ∀ p v, W.cell? p = some v → W.drew.cell? p = some v := fun _ _ h => h
      obtain ⟨WA, hWA⟩ : ∃ X, W.drew = X := ⟨_, rfl⟩
      have am : WA.cell? ⟨b1, 3, none⟩ = some (.int .i64 m) := by rw [← hWA]; exact hma
      have ax : WA.cell? ⟨b2, 2, none⟩ = some (.int .i64 x.a) := by rw [← hWA]; exact hxa
      have ay : WA.cell? ⟨w.heap.size + 1, 0, none⟩ = some (.int .i64 day) := by rw [← hWA]; exact hyc
      have an : WA.cell? ⟨w.heap.size + 1 + 1, 0, none⟩ = some (.int .i64 T) := by rw [← hWA]; exact hnc
      have anf : WA.frozen? ⟨w.heap.size + 1 + 1, 0, none⟩ = false := by rw [← hWA]; exact hnf
      have ad : WA.cell? ⟨w.heap.size + 1 + 1 + 1, 0, none⟩ = some (.int .i64 U) := by rw [← hWA]; exact hdc
      have adf : WA.frozen? ⟨w.heap.size + 1 + 1 + 1, 0, none⟩ = false := by rw [← hWA]; exact hdf
      have HN2 := Lib.hid (show Boxed WA (w.heap.size + 1 + 1) 3 (.int .i64 T) by rw [← hWA]; exact boxed_drew HC.out)
      have HD2 := Lib.hid (show Boxed WA (w.heap.size + 1 + 1 + 1) 3 (.int .i64 U) by rw [← hWA]; exact boxed_drew HDD.out)
      have HY2 := Lib.hid (show Boxed WA (w.heap.size + 1) 3 (.int .i64 day) by rw [← hWA]; exact boxed_drew HYY.out)
      have HST := Lib.hid (show Stay w.heap.size w1.heap.size W WA by rw [← hWA]; exact stay_drew)
      have HBA := Lib.hid (show Below w.heap.size w WA by rw [← hWA]; exact HB.out.trans (stay_drew (M := 0)).low)
      have hzA : WA.heap.size = W.heap.size := by rw [← hWA]; rfl
      obtain ⟨WB, hWB⟩ : ∃ X, WA.setCell ⟨w.heap.size + 1 + 1, 0, none⟩ (.int .i64 (T + x.a * (m - day))) = X := ⟨_, rfl⟩
      have bx : WB.cell? ⟨b2, 2, none⟩ = some (.int .i64 x.a) := by rw [← hWB, World.cell?_setCell_far _ _ _ _ (by simp; omega)]; exact ax
      have HD3 := Lib.hid (show Boxed WB (w.heap.size + 1 + 1 + 1) 3 (.int .i64 U) by rw [← hWB]; exact HD2.out.other (by omega) _)
      have HN3 := Lib.hid (show Boxed WB (w.heap.size + 1 + 1) 3 (.int .i64 (T + x.a * (m - day))) by rw [← hWB]; exact HN2.out.set _)
      have HY3 := Lib.hid (show Boxed WB (w.heap.size + 1) 3 (.int .i64 day) by rw [← hWB]; exact HY2.out.other (by omega) _)
      have bd : WB.cell? ⟨w.heap.size + 1 + 1 + 1, 0, none⟩ = some (.int .i64 U) := HD3.out.cell
      have bdf : WB.frozen? ⟨w.heap.size + 1 + 1 + 1, 0, none⟩ = false := HD3.out.frozen
      obtain ⟨WC, hWC⟩ : ∃ X, WB.setCell ⟨w.heap.size + 1 + 1 + 1, 0, none⟩ (.int .i64 (U + x.a)) = X := ⟨_, rfl⟩
      have hwd : IntKind.i64.wrap (m - day) = m - day := IntWalk.i64_in _ (by omega)
      have hv0 : wrap64 (m - day) = m - day := (IntWalk.i64_left _).symm.trans hwd
      have hv1 : wrap64 (x.a * (m - day)) = x.a * (m - day) := (IntWalk.i64_left _).symm.trans hw1
      have hv2 : wrap64 (T + x.a * (m - day)) = T + x.a * (m - day) := (IntWalk.i64_left _).symm.trans hw2
      have hv3 : wrap64 (U + x.a) = U + x.a := (IntWalk.i64_left _).symm.trans hw3
      have hl1A : b1 < WA.heap.size := by omega
      have hl2A : b2 < WA.heap.size := by omega
      clear hma hxa hyc hnc hnf hdc hdf kA
      refine wpIn_region_any hfol ?_
      change wpAnyIn _ _ _ _ _ _ _ _ _ (World.drew _)
      rw [hWA]
      refine anyIn_inv (J := fun listed a' w' => ∃ t27 t28 t29 t30 t31 t32 t33 t34 t35 t36 t37 t38 t39 t40 t41 : Value, a' = { tmps := #[Value.agg #[Value.slice a0 n0 c0, Value.slice a1 n1 c1, Value.slice a2 n2 c2], Value.int IntKind.i64 day, Value.pointer (some ⟨w.heap.size, 0, none⟩), Value.pointer (some ⟨w.heap.size + 1, 0, none⟩), Value.pointer (some ⟨w.heap.size + 1 + 1, 0, none⟩), Value.pointer (some ⟨w.heap.size + 1 + 1 + 1, 0, none⟩), Value.int IntKind.i64 0, Value.int IntKind.i64 0, Value.pointer (some ⟨b1, 0, none⟩), Value.pointer (some ⟨b2, 0, none⟩), Value.agg #[Value.slice a0 n0 c0, Value.slice a1 n1 c1, Value.slice a2 n2 c2], Value.int IntKind.i64 0, Value.int IntKind.i64 0, Value.bool false, undef, Value.int IntKind.i64 day, Value.bool true, Value.bool false, Value.agg #[Value.slice a0 n0 c0, Value.slice a1 n1 c1, Value.slice a2 n2 c2], Value.agg #[Value.slice a0 n0 c0, Value.slice a1 n1 c1, Value.slice a2 n2 c2], Value.func (Fn.func 116) #[Value.agg #[Value.slice a0 n0 c0, Value.slice a1 n1 c1, Value.slice a2 n2 c2]] #[], aggSec (secOf R x), aggHold x, Value.pointer (some ⟨b1, 3, none⟩), Value.int IntKind.i64 m, Value.int IntKind.i64 day, Value.bool true, t27, t28, t29, t30, t31, t32, t33, t34, t35, t36, t37, t38, t39, t40, t41], defers := [] } ∧ listed.size = 15 ∧ (listed.getD 0 false = true → t27 = .int .i64 T) ∧ (listed.getD 1 false = true → t28 = .pointer (some ⟨b2, 2, none⟩)) ∧ (listed.getD 2 false = true → t29 = .int .i64 x.a) ∧ (listed.getD 3 false = true → t30 = .pointer (some ⟨b1, 3, none⟩)) ∧ (listed.getD 4 false = true → t31 = .int .i64 m) ∧ (listed.getD 5 false = true → t32 = .int .i64 day) ∧ (listed.getD 6 false = true → t33 = .int .i64 (m - day)) ∧ (listed.getD 7 false = true → t34 = .int .i64 (x.a * (m - day))) ∧ (listed.getD 8 false = true → t35 = .int .i64 (T + x.a * (m - day))) ∧ (listed.getD 9 false = true → t36 = .int .i64 U) ∧ (listed.getD 10 false = true → t37 = .pointer (some ⟨b2, 2, none⟩)) ∧ (listed.getD 11 false = true → t38 = .int .i64 x.a) ∧ (listed.getD 12 false = true → t39 = .int .i64 (U + x.a)) ∧ (listed.getD 13 false = true → ∀ j, j < 9 → listed.getD j false = true) ∧ (listed.getD 14 false = true → ∀ j, j < 15 → listed.getD j false = true) ∧ (listed.getD 14 false = true → w' = WC) ∧ (listed.getD 14 false = false → listed.getD 13 false = true → w' = WB) ∧ (listed.getD 13 false = false → w' = WA)) ?step ?fin _ _ _ _ ⟨undef, undef, undef, undef, undef, undef, undef, undef, undef, undef, undef, undef, undef, undef, undef, rfl, rfl, fun h => by simp at h, fun h => by simp at h, fun h => by simp at h, fun h => by simp at h, fun h => by simp at h, fun h => by simp at h, fun h => by simp at h, fun h => by simp at h, fun h => by simp at h, fun h => by simp at h, fun h => by simp at h, fun h => by simp at h, fun h => by simp at h, fun h => by simp at h, fun h => by simp at h, fun h => by simp at h, fun _ h => by simp at h, fun _ => rfl⟩ (by decide)
      case step =>
        rintro listed a' w' ⟨t27, t28, t29, t30, t31, t32, t33, t34, t35, t36, t37, t38, t39, t40, t41, rfl, hsz15, g0, g1, g2, g3, g4, g5, g6, g7, g8, g9, g10, g11, g12, o13, o14, wC, wB, wA⟩ i hi K hK
        obtain ⟨hni, o, ho, hdep⟩ := mem_ready.1 hi
        have hi15 : i < 15 := (Array.getElem?_eq_some_iff.1 ho).1
        have hself := listed_self hni
        have hno := listed_no hni
        have hn14 : listed.getD 14 false = false := by
          cases h : listed.getD 14 false with
          | false => rfl
          | true => have := o14 h i hi15; rw [hno] at this; cases this
        rcases (show i = 0 ∨ i = 1 ∨ i = 2 ∨ i = 3 ∨ i = 4 ∨ i = 5 ∨ i = 6 ∨ i = 7 ∨ i = 8 ∨ i = 9 ∨ i = 10 ∨ i = 11 ∨ i = 12 ∨ i = 13 ∨ i = 14 by omega) with rfl | rfl | rfl | rfl | rfl | rfl | rfl | rfl | rfl | rfl | rfl | rfl | rfl | rfl | rfl
        · injection ho with ho
          subst ho
          have hA : listed.getD 13 false = false := by
            cases h : listed.getD 13 false with
            | false => rfl
            | true => have := o13 h 0 (by omega); rw [hno] at this; cases this
          obtain rfl := wA hA
          clear hi hdep
          refine wpOpIn_of rfl rfl ?_
          go_simp
          try simp only [hwd, hw1, hw2, hw3, hv0, hv1, hv2, hv3]
          exact hK _ _ ⟨(.int .i64 T), t28, t29, t30, t31, t32, t33, t34, t35, t36, t37, t38, t39, t40, t41, rfl, by simpa using hsz15, fun _ => rfl, fun h => g1 (listed_ne (by decide) h), fun h => g2 (listed_ne (by decide) h), fun h => g3 (listed_ne (by decide) h), fun h => g4 (listed_ne (by decide) h), fun h => g5 (listed_ne (by decide) h), fun h => g6 (listed_ne (by decide) h), fun h => g7 (listed_ne (by decide) h), fun h => g8 (listed_ne (by decide) h), fun h => g9 (listed_ne (by decide) h), fun h => g10 (listed_ne (by decide) h), fun h => g11 (listed_ne (by decide) h), fun h => g12 (listed_ne (by decide) h), fun h j hj => listed_keep (o13 (listed_ne (by decide) h) j hj), fun h => absurd (listed_ne (by decide) h) (by rw [hn14]; decide), fun h => absurd (listed_ne (by decide) h) (by rw [hn14]; decide), fun _ h => wB hn14 (listed_ne (by decide) h), fun _ => rfl⟩
        · injection ho with ho
          subst ho
          have hA : listed.getD 13 false = false := by
            cases h : listed.getD 13 false with
            | false => rfl
            | true => have := o13 h 1 (by omega); rw [hno] at this; cases this
          obtain rfl := wA hA
          clear hi hdep
          refine wpOpIn_of rfl rfl ?_
          go_simp
          try simp only [hwd, hw1, hw2, hw3, hv0, hv1, hv2, hv3]
          exact hK _ _ ⟨t27, (.pointer (some ⟨b2, 2, none⟩)), t29, t30, t31, t32, t33, t34, t35, t36, t37, t38, t39, t40, t41, rfl, by simpa using hsz15, fun h => g0 (listed_ne (by decide) h), fun _ => rfl, fun h => g2 (listed_ne (by decide) h), fun h => g3 (listed_ne (by decide) h), fun h => g4 (listed_ne (by decide) h), fun h => g5 (listed_ne (by decide) h), fun h => g6 (listed_ne (by decide) h), fun h => g7 (listed_ne (by decide) h), fun h => g8 (listed_ne (by decide) h), fun h => g9 (listed_ne (by decide) h), fun h => g10 (listed_ne (by decide) h), fun h => g11 (listed_ne (by decide) h), fun h => g12 (listed_ne (by decide) h), fun h j hj => listed_keep (o13 (listed_ne (by decide) h) j hj), fun h => absurd (listed_ne (by decide) h) (by rw [hn14]; decide), fun h => absurd (listed_ne (by decide) h) (by rw [hn14]; decide), fun _ h => wB hn14 (listed_ne (by decide) h), fun _ => rfl⟩
        · injection ho with ho
          subst ho
          have d1 := hdep ⟨1, .data⟩ (by simp) rfl
          obtain rfl := g1 d1
          have hA : listed.getD 13 false = false := by
            cases h : listed.getD 13 false with
            | false => rfl
            | true => have := o13 h 2 (by omega); rw [hno] at this; cases this
          obtain rfl := wA hA
          clear hi hdep
          refine wpOpIn_of rfl rfl ?_
          go_simp
          try simp only [hwd, hw1, hw2, hw3, hv0, hv1, hv2, hv3]
          exact hK _ _ ⟨t27, _, (.int .i64 x.a), t30, t31, t32, t33, t34, t35, t36, t37, t38, t39, t40, t41, rfl, by simpa using hsz15, fun h => g0 (listed_ne (by decide) h), fun h => g1 (listed_ne (by decide) h), fun _ => rfl, fun h => g3 (listed_ne (by decide) h), fun h => g4 (listed_ne (by decide) h), fun h => g5 (listed_ne (by decide) h), fun h => g6 (listed_ne (by decide) h), fun h => g7 (listed_ne (by decide) h), fun h => g8 (listed_ne (by decide) h), fun h => g9 (listed_ne (by decide) h), fun h => g10 (listed_ne (by decide) h), fun h => g11 (listed_ne (by decide) h), fun h => g12 (listed_ne (by decide) h), fun h j hj => listed_keep (o13 (listed_ne (by decide) h) j hj), fun h => absurd (listed_ne (by decide) h) (by rw [hn14]; decide), fun h => absurd (listed_ne (by decide) h) (by rw [hn14]; decide), fun _ h => wB hn14 (listed_ne (by decide) h), fun _ => rfl⟩
        · injection ho with ho
          subst ho
          have hA : listed.getD 13 false = false := by
            cases h : listed.getD 13 false with
            | false => rfl
            | true => have := o13 h 3 (by omega); rw [hno] at this; cases this
          obtain rfl := wA hA
          clear hi hdep
          refine wpOpIn_of rfl rfl ?_
          go_simp
          try simp only [hwd, hw1, hw2, hw3, hv0, hv1, hv2, hv3]
          exact hK _ _ ⟨t27, t28, t29, (.pointer (some ⟨b1, 3, none⟩)), t31, t32, t33, t34, t35, t36, t37, t38, t39, t40, t41, rfl, by simpa using hsz15, fun h => g0 (listed_ne (by decide) h), fun h => g1 (listed_ne (by decide) h), fun h => g2 (listed_ne (by decide) h), fun _ => rfl, fun h => g4 (listed_ne (by decide) h), fun h => g5 (listed_ne (by decide) h), fun h => g6 (listed_ne (by decide) h), fun h => g7 (listed_ne (by decide) h), fun h => g8 (listed_ne (by decide) h), fun h => g9 (listed_ne (by decide) h), fun h => g10 (listed_ne (by decide) h), fun h => g11 (listed_ne (by decide) h), fun h => g12 (listed_ne (by decide) h), fun h j hj => listed_keep (o13 (listed_ne (by decide) h) j hj), fun h => absurd (listed_ne (by decide) h) (by rw [hn14]; decide), fun h => absurd (listed_ne (by decide) h) (by rw [hn14]; decide), fun _ h => wB hn14 (listed_ne (by decide) h), fun _ => rfl⟩
        · injection ho with ho
          subst ho
          have d3 := hdep ⟨3, .data⟩ (by simp) rfl
          obtain rfl := g3 d3
          have hA : listed.getD 13 false = false := by
            cases h : listed.getD 13 false with
            | false => rfl
            | true => have := o13 h 4 (by omega); rw [hno] at this; cases this
          obtain rfl := wA hA
          clear hi hdep
          refine wpOpIn_of rfl rfl ?_
          go_simp
          try simp only [hwd, hw1, hw2, hw3, hv0, hv1, hv2, hv3]
          exact hK _ _ ⟨t27, t28, t29, _, (.int .i64 m), t32, t33, t34, t35, t36, t37, t38, t39, t40, t41, rfl, by simpa using hsz15, fun h => g0 (listed_ne (by decide) h), fun h => g1 (listed_ne (by decide) h), fun h => g2 (listed_ne (by decide) h), fun h => g3 (listed_ne (by decide) h), fun _ => rfl, fun h => g5 (listed_ne (by decide) h), fun h => g6 (listed_ne (by decide) h), fun h => g7 (listed_ne (by decide) h), fun h => g8 (listed_ne (by decide) h), fun h => g9 (listed_ne (by decide) h), fun h => g10 (listed_ne (by decide) h), fun h => g11 (listed_ne (by decide) h), fun h => g12 (listed_ne (by decide) h), fun h j hj => listed_keep (o13 (listed_ne (by decide) h) j hj), fun h => absurd (listed_ne (by decide) h) (by rw [hn14]; decide), fun h => absurd (listed_ne (by decide) h) (by rw [hn14]; decide), fun _ h => wB hn14 (listed_ne (by decide) h), fun _ => rfl⟩
        · injection ho with ho
          subst ho
          have hA : listed.getD 13 false = false := by
            cases h : listed.getD 13 false with
            | false => rfl
            | true => have := o13 h 5 (by omega); rw [hno] at this; cases this
          obtain rfl := wA hA
          clear hi hdep
          refine wpOpIn_of rfl rfl ?_
          go_simp
          try simp only [hwd, hw1, hw2, hw3, hv0, hv1, hv2, hv3]
          exact hK _ _ ⟨t27, t28, t29, t30, t31, (.int .i64 day), t33, t34, t35, t36, t37, t38, t39, t40, t41, rfl, by simpa using hsz15, fun h => g0 (listed_ne (by decide) h), fun h => g1 (listed_ne (by decide) h), fun h => g2 (listed_ne (by decide) h), fun h => g3 (listed_ne (by decide) h), fun h => g4 (listed_ne (by decide) h), fun _ => rfl, fun h => g6 (listed_ne (by decide) h), fun h => g7 (listed_ne (by decide) h), fun h => g8 (listed_ne (by decide) h), fun h => g9 (listed_ne (by decide) h), fun h => g10 (listed_ne (by decide) h), fun h => g11 (listed_ne (by decide) h), fun h => g12 (listed_ne (by decide) h), fun h j hj => listed_keep (o13 (listed_ne (by decide) h) j hj), fun h => absurd (listed_ne (by decide) h) (by rw [hn14]; decide), fun h => absurd (listed_ne (by decide) h) (by rw [hn14]; decide), fun _ h => wB hn14 (listed_ne (by decide) h), fun _ => rfl⟩
        · injection ho with ho
          subst ho
          have d4 := hdep ⟨4, .data⟩ (by simp) rfl
          obtain rfl := g4 d4
          have d5 := hdep ⟨5, .data⟩ (by simp) rfl
          obtain rfl := g5 d5
          have hA : listed.getD 13 false = false := by
            cases h : listed.getD 13 false with
            | false => rfl
            | true => have := o13 h 6 (by omega); rw [hno] at this; cases this
          obtain rfl := wA hA
          clear hi hdep
          refine wpOpIn_of rfl rfl ?_
          go_simp
          try simp only [hwd, hw1, hw2, hw3, hv0, hv1, hv2, hv3]
          exact hK _ _ ⟨t27, t28, t29, t30, _, _, (.int .i64 (m - day)), t34, t35, t36, t37, t38, t39, t40, t41, rfl, by simpa using hsz15, fun h => g0 (listed_ne (by decide) h), fun h => g1 (listed_ne (by decide) h), fun h => g2 (listed_ne (by decide) h), fun h => g3 (listed_ne (by decide) h), fun h => g4 (listed_ne (by decide) h), fun h => g5 (listed_ne (by decide) h), fun _ => rfl, fun h => g7 (listed_ne (by decide) h), fun h => g8 (listed_ne (by decide) h), fun h => g9 (listed_ne (by decide) h), fun h => g10 (listed_ne (by decide) h), fun h => g11 (listed_ne (by decide) h), fun h => g12 (listed_ne (by decide) h), fun h j hj => listed_keep (o13 (listed_ne (by decide) h) j hj), fun h => absurd (listed_ne (by decide) h) (by rw [hn14]; decide), fun h => absurd (listed_ne (by decide) h) (by rw [hn14]; decide), fun _ h => wB hn14 (listed_ne (by decide) h), fun _ => rfl⟩
        · injection ho with ho
          subst ho
          have d2 := hdep ⟨2, .data⟩ (by simp) rfl
          obtain rfl := g2 d2
          have d6 := hdep ⟨6, .data⟩ (by simp) rfl
          obtain rfl := g6 d6
          have hA : listed.getD 13 false = false := by
            cases h : listed.getD 13 false with
            | false => rfl
            | true => have := o13 h 7 (by omega); rw [hno] at this; cases this
          obtain rfl := wA hA
          clear hi hdep
          refine wpOpIn_of rfl rfl ?_
          go_simp
          try simp only [hwd, hw1, hw2, hw3, hv0, hv1, hv2, hv3]
          exact hK _ _ ⟨t27, t28, _, t30, t31, t32, _, (.int .i64 (x.a * (m - day))), t35, t36, t37, t38, t39, t40, t41, rfl, by simpa using hsz15, fun h => g0 (listed_ne (by decide) h), fun h => g1 (listed_ne (by decide) h), fun h => g2 (listed_ne (by decide) h), fun h => g3 (listed_ne (by decide) h), fun h => g4 (listed_ne (by decide) h), fun h => g5 (listed_ne (by decide) h), fun h => g6 (listed_ne (by decide) h), fun _ => rfl, fun h => g8 (listed_ne (by decide) h), fun h => g9 (listed_ne (by decide) h), fun h => g10 (listed_ne (by decide) h), fun h => g11 (listed_ne (by decide) h), fun h => g12 (listed_ne (by decide) h), fun h j hj => listed_keep (o13 (listed_ne (by decide) h) j hj), fun h => absurd (listed_ne (by decide) h) (by rw [hn14]; decide), fun h => absurd (listed_ne (by decide) h) (by rw [hn14]; decide), fun _ h => wB hn14 (listed_ne (by decide) h), fun _ => rfl⟩
        · injection ho with ho
          subst ho
          have d0 := hdep ⟨0, .data⟩ (by simp) rfl
          obtain rfl := g0 d0
          have d7 := hdep ⟨7, .data⟩ (by simp) rfl
          obtain rfl := g7 d7
          have hA : listed.getD 13 false = false := by
            cases h : listed.getD 13 false with
            | false => rfl
            | true => have := o13 h 8 (by omega); rw [hno] at this; cases this
          obtain rfl := wA hA
          clear hi hdep
          refine wpOpIn_of rfl rfl ?_
          go_simp
          try simp only [hwd, hw1, hw2, hw3, hv0, hv1, hv2, hv3]
          exact hK _ _ ⟨_, t28, t29, t30, t31, t32, t33, _, (.int .i64 (T + x.a * (m - day))), t36, t37, t38, t39, t40, t41, rfl, by simpa using hsz15, fun h => g0 (listed_ne (by decide) h), fun h => g1 (listed_ne (by decide) h), fun h => g2 (listed_ne (by decide) h), fun h => g3 (listed_ne (by decide) h), fun h => g4 (listed_ne (by decide) h), fun h => g5 (listed_ne (by decide) h), fun h => g6 (listed_ne (by decide) h), fun h => g7 (listed_ne (by decide) h), fun _ => rfl, fun h => g9 (listed_ne (by decide) h), fun h => g10 (listed_ne (by decide) h), fun h => g11 (listed_ne (by decide) h), fun h => g12 (listed_ne (by decide) h), fun h j hj => listed_keep (o13 (listed_ne (by decide) h) j hj), fun h => absurd (listed_ne (by decide) h) (by rw [hn14]; decide), fun h => absurd (listed_ne (by decide) h) (by rw [hn14]; decide), fun _ h => wB hn14 (listed_ne (by decide) h), fun _ => rfl⟩
        · injection ho with ho
          subst ho
          clear hi hdep
          cases hA : listed.getD 13 false with
          | false =>
            obtain rfl := wA hA
            refine wpOpIn_of rfl rfl ?_
            go_simp
            try simp only [hwd, hw1, hw2, hw3, hv0, hv1, hv2, hv3]
            exact hK _ _ ⟨t27, t28, t29, t30, t31, t32, t33, t34, t35, (.int .i64 U), t37, t38, t39, t40, t41, rfl, by simpa using hsz15, fun h => g0 (listed_ne (by decide) h), fun h => g1 (listed_ne (by decide) h), fun h => g2 (listed_ne (by decide) h), fun h => g3 (listed_ne (by decide) h), fun h => g4 (listed_ne (by decide) h), fun h => g5 (listed_ne (by decide) h), fun h => g6 (listed_ne (by decide) h), fun h => g7 (listed_ne (by decide) h), fun h => g8 (listed_ne (by decide) h), fun _ => rfl, fun h => g10 (listed_ne (by decide) h), fun h => g11 (listed_ne (by decide) h), fun h => g12 (listed_ne (by decide) h), fun h j hj => listed_keep (o13 (listed_ne (by decide) h) j hj), fun h => absurd (listed_ne (by decide) h) (by rw [hn14]; decide), fun h => absurd (listed_ne (by decide) h) (by rw [hn14]; decide), fun _ h => wB hn14 (listed_ne (by decide) h), fun h => rfl⟩
          | true =>
            obtain rfl := wB hn14 hA
            obtain rfl := g0 (o13 hA 0 (by omega))
            obtain rfl := g1 (o13 hA 1 (by omega))
            obtain rfl := g2 (o13 hA 2 (by omega))
            obtain rfl := g3 (o13 hA 3 (by omega))
            obtain rfl := g4 (o13 hA 4 (by omega))
            obtain rfl := g5 (o13 hA 5 (by omega))
            obtain rfl := g6 (o13 hA 6 (by omega))
            obtain rfl := g7 (o13 hA 7 (by omega))
            obtain rfl := g8 (o13 hA 8 (by omega))
            refine wpOpIn_of rfl rfl ?_
            go_simp
            try simp only [hwd, hw1, hw2, hw3, hv0, hv1, hv2, hv3]
            exact hK _ _ ⟨_, _, _, _, _, _, _, _, _, (.int .i64 U), t37, t38, t39, t40, t41, rfl, by simpa using hsz15, fun h => g0 (listed_ne (by decide) h), fun h => g1 (listed_ne (by decide) h), fun h => g2 (listed_ne (by decide) h), fun h => g3 (listed_ne (by decide) h), fun h => g4 (listed_ne (by decide) h), fun h => g5 (listed_ne (by decide) h), fun h => g6 (listed_ne (by decide) h), fun h => g7 (listed_ne (by decide) h), fun h => g8 (listed_ne (by decide) h), fun _ => rfl, fun h => g10 (listed_ne (by decide) h), fun h => g11 (listed_ne (by decide) h), fun h => g12 (listed_ne (by decide) h), fun h j hj => listed_keep (o13 (listed_ne (by decide) h) j hj), fun h => absurd (listed_ne (by decide) h) (by rw [hn14]; decide), fun h => absurd (listed_ne (by decide) h) (by rw [hn14]; decide), fun _ h => rfl, fun h => wA (by rw [getD_set_ne _ (by decide)] at h; exact h)⟩
        · injection ho with ho
          subst ho
          clear hi hdep
          cases hA : listed.getD 13 false with
          | false =>
            obtain rfl := wA hA
            refine wpOpIn_of rfl rfl ?_
            go_simp
            try simp only [hwd, hw1, hw2, hw3, hv0, hv1, hv2, hv3]
            exact hK _ _ ⟨t27, t28, t29, t30, t31, t32, t33, t34, t35, t36, (.pointer (some ⟨b2, 2, none⟩)), t38, t39, t40, t41, rfl, by simpa using hsz15, fun h => g0 (listed_ne (by decide) h), fun h => g1 (listed_ne (by decide) h), fun h => g2 (listed_ne (by decide) h), fun h => g3 (listed_ne (by decide) h), fun h => g4 (listed_ne (by decide) h), fun h => g5 (listed_ne (by decide) h), fun h => g6 (listed_ne (by decide) h), fun h => g7 (listed_ne (by decide) h), fun h => g8 (listed_ne (by decide) h), fun h => g9 (listed_ne (by decide) h), fun _ => rfl, fun h => g11 (listed_ne (by decide) h), fun h => g12 (listed_ne (by decide) h), fun h j hj => listed_keep (o13 (listed_ne (by decide) h) j hj), fun h => absurd (listed_ne (by decide) h) (by rw [hn14]; decide), fun h => absurd (listed_ne (by decide) h) (by rw [hn14]; decide), fun _ h => wB hn14 (listed_ne (by decide) h), fun h => rfl⟩
          | true =>
            obtain rfl := wB hn14 hA
            obtain rfl := g0 (o13 hA 0 (by omega))
            obtain rfl := g1 (o13 hA 1 (by omega))
            obtain rfl := g2 (o13 hA 2 (by omega))
            obtain rfl := g3 (o13 hA 3 (by omega))
            obtain rfl := g4 (o13 hA 4 (by omega))
            obtain rfl := g5 (o13 hA 5 (by omega))
            obtain rfl := g6 (o13 hA 6 (by omega))
            obtain rfl := g7 (o13 hA 7 (by omega))
            obtain rfl := g8 (o13 hA 8 (by omega))
            refine wpOpIn_of rfl rfl ?_
            go_simp
            try simp only [hwd, hw1, hw2, hw3, hv0, hv1, hv2, hv3]
            exact hK _ _ ⟨_, _, _, _, _, _, _, _, _, t36, (.pointer (some ⟨b2, 2, none⟩)), t38, t39, t40, t41, rfl, by simpa using hsz15, fun h => g0 (listed_ne (by decide) h), fun h => g1 (listed_ne (by decide) h), fun h => g2 (listed_ne (by decide) h), fun h => g3 (listed_ne (by decide) h), fun h => g4 (listed_ne (by decide) h), fun h => g5 (listed_ne (by decide) h), fun h => g6 (listed_ne (by decide) h), fun h => g7 (listed_ne (by decide) h), fun h => g8 (listed_ne (by decide) h), fun h => g9 (listed_ne (by decide) h), fun _ => rfl, fun h => g11 (listed_ne (by decide) h), fun h => g12 (listed_ne (by decide) h), fun h j hj => listed_keep (o13 (listed_ne (by decide) h) j hj), fun h => absurd (listed_ne (by decide) h) (by rw [hn14]; decide), fun h => absurd (listed_ne (by decide) h) (by rw [hn14]; decide), fun _ h => rfl, fun h => wA (by rw [getD_set_ne _ (by decide)] at h; exact h)⟩
        · injection ho with ho
          subst ho
          have d10 := hdep ⟨10, .data⟩ (by simp) rfl
          obtain rfl := g10 d10
          clear hi hdep
          cases hA : listed.getD 13 false with
          | false =>
            obtain rfl := wA hA
            refine wpOpIn_of rfl rfl ?_
            go_simp
            try simp only [hwd, hw1, hw2, hw3, hv0, hv1, hv2, hv3]
            exact hK _ _ ⟨t27, t28, t29, t30, t31, t32, t33, t34, t35, t36, _, (.int .i64 x.a), t39, t40, t41, rfl, by simpa using hsz15, fun h => g0 (listed_ne (by decide) h), fun h => g1 (listed_ne (by decide) h), fun h => g2 (listed_ne (by decide) h), fun h => g3 (listed_ne (by decide) h), fun h => g4 (listed_ne (by decide) h), fun h => g5 (listed_ne (by decide) h), fun h => g6 (listed_ne (by decide) h), fun h => g7 (listed_ne (by decide) h), fun h => g8 (listed_ne (by decide) h), fun h => g9 (listed_ne (by decide) h), fun h => g10 (listed_ne (by decide) h), fun _ => rfl, fun h => g12 (listed_ne (by decide) h), fun h j hj => listed_keep (o13 (listed_ne (by decide) h) j hj), fun h => absurd (listed_ne (by decide) h) (by rw [hn14]; decide), fun h => absurd (listed_ne (by decide) h) (by rw [hn14]; decide), fun _ h => wB hn14 (listed_ne (by decide) h), fun h => rfl⟩
          | true =>
            obtain rfl := wB hn14 hA
            obtain rfl := g0 (o13 hA 0 (by omega))
            obtain rfl := g1 (o13 hA 1 (by omega))
            obtain rfl := g2 (o13 hA 2 (by omega))
            obtain rfl := g3 (o13 hA 3 (by omega))
            obtain rfl := g4 (o13 hA 4 (by omega))
            obtain rfl := g5 (o13 hA 5 (by omega))
            obtain rfl := g6 (o13 hA 6 (by omega))
            obtain rfl := g7 (o13 hA 7 (by omega))
            obtain rfl := g8 (o13 hA 8 (by omega))
            refine wpOpIn_of rfl rfl ?_
            go_simp
            try simp only [hwd, hw1, hw2, hw3, hv0, hv1, hv2, hv3]
            exact hK _ _ ⟨_, _, _, _, _, _, _, _, _, t36, _, (.int .i64 x.a), t39, t40, t41, rfl, by simpa using hsz15, fun h => g0 (listed_ne (by decide) h), fun h => g1 (listed_ne (by decide) h), fun h => g2 (listed_ne (by decide) h), fun h => g3 (listed_ne (by decide) h), fun h => g4 (listed_ne (by decide) h), fun h => g5 (listed_ne (by decide) h), fun h => g6 (listed_ne (by decide) h), fun h => g7 (listed_ne (by decide) h), fun h => g8 (listed_ne (by decide) h), fun h => g9 (listed_ne (by decide) h), fun h => g10 (listed_ne (by decide) h), fun _ => rfl, fun h => g12 (listed_ne (by decide) h), fun h j hj => listed_keep (o13 (listed_ne (by decide) h) j hj), fun h => absurd (listed_ne (by decide) h) (by rw [hn14]; decide), fun h => absurd (listed_ne (by decide) h) (by rw [hn14]; decide), fun _ h => rfl, fun h => wA (by rw [getD_set_ne _ (by decide)] at h; exact h)⟩
        · injection ho with ho
          subst ho
          have d9 := hdep ⟨9, .data⟩ (by simp) rfl
          obtain rfl := g9 d9
          have d11 := hdep ⟨11, .data⟩ (by simp) rfl
          obtain rfl := g11 d11
          clear hi hdep
          cases hA : listed.getD 13 false with
          | false =>
            obtain rfl := wA hA
            refine wpOpIn_of rfl rfl ?_
            go_simp
            try simp only [hwd, hw1, hw2, hw3, hv0, hv1, hv2, hv3]
            exact hK _ _ ⟨t27, t28, t29, t30, t31, t32, t33, t34, t35, _, t37, _, (.int .i64 (U + x.a)), t40, t41, rfl, by simpa using hsz15, fun h => g0 (listed_ne (by decide) h), fun h => g1 (listed_ne (by decide) h), fun h => g2 (listed_ne (by decide) h), fun h => g3 (listed_ne (by decide) h), fun h => g4 (listed_ne (by decide) h), fun h => g5 (listed_ne (by decide) h), fun h => g6 (listed_ne (by decide) h), fun h => g7 (listed_ne (by decide) h), fun h => g8 (listed_ne (by decide) h), fun h => g9 (listed_ne (by decide) h), fun h => g10 (listed_ne (by decide) h), fun h => g11 (listed_ne (by decide) h), fun _ => rfl, fun h j hj => listed_keep (o13 (listed_ne (by decide) h) j hj), fun h => absurd (listed_ne (by decide) h) (by rw [hn14]; decide), fun h => absurd (listed_ne (by decide) h) (by rw [hn14]; decide), fun _ h => wB hn14 (listed_ne (by decide) h), fun h => rfl⟩
          | true =>
            obtain rfl := wB hn14 hA
            obtain rfl := g0 (o13 hA 0 (by omega))
            obtain rfl := g1 (o13 hA 1 (by omega))
            obtain rfl := g2 (o13 hA 2 (by omega))
            obtain rfl := g3 (o13 hA 3 (by omega))
            obtain rfl := g4 (o13 hA 4 (by omega))
            obtain rfl := g5 (o13 hA 5 (by omega))
            obtain rfl := g6 (o13 hA 6 (by omega))
            obtain rfl := g7 (o13 hA 7 (by omega))
            obtain rfl := g8 (o13 hA 8 (by omega))
            refine wpOpIn_of rfl rfl ?_
            go_simp
            try simp only [hwd, hw1, hw2, hw3, hv0, hv1, hv2, hv3]
            exact hK _ _ ⟨_, _, _, _, _, _, _, _, _, _, t37, _, (.int .i64 (U + x.a)), t40, t41, rfl, by simpa using hsz15, fun h => g0 (listed_ne (by decide) h), fun h => g1 (listed_ne (by decide) h), fun h => g2 (listed_ne (by decide) h), fun h => g3 (listed_ne (by decide) h), fun h => g4 (listed_ne (by decide) h), fun h => g5 (listed_ne (by decide) h), fun h => g6 (listed_ne (by decide) h), fun h => g7 (listed_ne (by decide) h), fun h => g8 (listed_ne (by decide) h), fun h => g9 (listed_ne (by decide) h), fun h => g10 (listed_ne (by decide) h), fun h => g11 (listed_ne (by decide) h), fun _ => rfl, fun h j hj => listed_keep (o13 (listed_ne (by decide) h) j hj), fun h => absurd (listed_ne (by decide) h) (by rw [hn14]; decide), fun h => absurd (listed_ne (by decide) h) (by rw [hn14]; decide), fun _ h => rfl, fun h => wA (by rw [getD_set_ne _ (by decide)] at h; exact h)⟩
        · injection ho with ho
          subst ho
          have d0 := hdep ⟨0, .phase⟩ (by simp) rfl
          have d1 := hdep ⟨1, .phase⟩ (by simp) rfl
          have d2 := hdep ⟨2, .phase⟩ (by simp) rfl
          have d3 := hdep ⟨3, .phase⟩ (by simp) rfl
          have d4 := hdep ⟨4, .phase⟩ (by simp) rfl
          have d5 := hdep ⟨5, .phase⟩ (by simp) rfl
          have d6 := hdep ⟨6, .phase⟩ (by simp) rfl
          have d7 := hdep ⟨7, .phase⟩ (by simp) rfl
          have d8 := hdep ⟨8, .phase⟩ (by simp) rfl
          obtain rfl := g0 d0
          obtain rfl := g1 d1
          obtain rfl := g2 d2
          obtain rfl := g3 d3
          obtain rfl := g4 d4
          obtain rfl := g5 d5
          obtain rfl := g6 d6
          obtain rfl := g7 d7
          obtain rfl := g8 d8
          obtain rfl := wA hno
          clear hi hdep
          refine wpOpIn_of rfl rfl ?_
          go_simp
          exact hK _ _ ⟨_, _, _, _, _, _, _, _, _, t36, t37, t38, t39, t40, t41, rfl, by simpa using hsz15, fun h => g0 (listed_ne (by decide) h), fun h => g1 (listed_ne (by decide) h), fun h => g2 (listed_ne (by decide) h), fun h => g3 (listed_ne (by decide) h), fun h => g4 (listed_ne (by decide) h), fun h => g5 (listed_ne (by decide) h), fun h => g6 (listed_ne (by decide) h), fun h => g7 (listed_ne (by decide) h), fun h => g8 (listed_ne (by decide) h), fun h => g9 (listed_ne (by decide) h), fun h => g10 (listed_ne (by decide) h), fun h => g11 (listed_ne (by decide) h), fun h => g12 (listed_ne (by decide) h), fun _ j hj => listed_keep (by rcases (show j = 0 ∨ j = 1 ∨ j = 2 ∨ j = 3 ∨ j = 4 ∨ j = 5 ∨ j = 6 ∨ j = 7 ∨ j = 8 by omega) with rfl | rfl | rfl | rfl | rfl | rfl | rfl | rfl | rfl <;> assumption), fun h => absurd (listed_ne (by decide) h) (by rw [hn14]; decide), fun h => absurd (listed_ne (by decide) h) (by rw [hn14]; decide), fun _ _ => rfl, fun h => absurd hself (by rw [h]; decide)⟩
        · injection ho with ho
          subst ho
          have d0 := hdep ⟨0, .phase⟩ (by simp) rfl
          have d1 := hdep ⟨1, .phase⟩ (by simp) rfl
          have d2 := hdep ⟨2, .phase⟩ (by simp) rfl
          have d3 := hdep ⟨3, .phase⟩ (by simp) rfl
          have d4 := hdep ⟨4, .phase⟩ (by simp) rfl
          have d5 := hdep ⟨5, .phase⟩ (by simp) rfl
          have d6 := hdep ⟨6, .phase⟩ (by simp) rfl
          have d7 := hdep ⟨7, .phase⟩ (by simp) rfl
          have d8 := hdep ⟨8, .phase⟩ (by simp) rfl
          have d9 := hdep ⟨9, .phase⟩ (by simp) rfl
          have d10 := hdep ⟨10, .phase⟩ (by simp) rfl
          have d11 := hdep ⟨11, .phase⟩ (by simp) rfl
          have d12 := hdep ⟨12, .phase⟩ (by simp) rfl
          have d13 := hdep ⟨13, .phase⟩ (by simp) rfl
          obtain rfl := g0 d0
          obtain rfl := g1 d1
          obtain rfl := g2 d2
          obtain rfl := g3 d3
          obtain rfl := g4 d4
          obtain rfl := g5 d5
          obtain rfl := g6 d6
          obtain rfl := g7 d7
          obtain rfl := g8 d8
          obtain rfl := g9 d9
          obtain rfl := g10 d10
          obtain rfl := g11 d11
          obtain rfl := g12 d12
          obtain rfl := wB hno d13
          clear hi hdep
          refine wpOpIn_of rfl rfl ?_
          go_simp
          exact hK _ _ ⟨_, _, _, _, _, _, _, _, _, _, _, _, _, t40, t41, rfl, by simpa using hsz15, fun h => g0 (listed_ne (by decide) h), fun h => g1 (listed_ne (by decide) h), fun h => g2 (listed_ne (by decide) h), fun h => g3 (listed_ne (by decide) h), fun h => g4 (listed_ne (by decide) h), fun h => g5 (listed_ne (by decide) h), fun h => g6 (listed_ne (by decide) h), fun h => g7 (listed_ne (by decide) h), fun h => g8 (listed_ne (by decide) h), fun h => g9 (listed_ne (by decide) h), fun h => g10 (listed_ne (by decide) h), fun h => g11 (listed_ne (by decide) h), fun h => g12 (listed_ne (by decide) h), fun h j hj => listed_keep (o13 (listed_ne (by decide) h) j hj), fun _ j hj => (by rcases (show j = 0 ∨ j = 1 ∨ j = 2 ∨ j = 3 ∨ j = 4 ∨ j = 5 ∨ j = 6 ∨ j = 7 ∨ j = 8 ∨ j = 9 ∨ j = 10 ∨ j = 11 ∨ j = 12 ∨ j = 13 ∨ j = 14 by omega) with rfl | rfl | rfl | rfl | rfl | rfl | rfl | rfl | rfl | rfl | rfl | rfl | rfl | rfl | rfl <;> first | exact hself | (refine listed_keep ?_; assumption)), fun _ => rfl, fun h => absurd hself (by rw [h]; decide), fun h => absurd (listed_keep d13) (by rw [h]; decide)⟩
      case fin =>
        rintro listed a' w' ⟨t27, t28, t29, t30, t31, t32, t33, t34, t35, t36, t37, t38, t39, t40, t41, rfl, hsz15, g0, g1, g2, g3, g4, g5, g6, g7, g8, g9, g10, g11, g12, o13, o14, wC, wB, wA⟩ hr
        have hfull := ready_full hsz15 hr (by kernel_rfl)
        obtain rfl := wC (hfull 14 (by decide))
        rw [← hWC]
        exact ⟨HST.out.trans ((show Stay w.heap.size w1.heap.size WA WB by rw [← hWB]; exact stay_set (by omega) (by omega) _).trans (stay_set (by omega) (by omega) _)), by rw [HS2.out]; exact HN3.out.other (by omega) _, by rw [HU2.out]; exact HD3.out.set _, HY3.out.other (by omega) _, HBA.out.trans ((show Below w.heap.size WA WB by rw [← hWB]; exact (Below.refl _ _).setCell (p := ⟨_, 0, none⟩) (by simp; omega) _).trans ((Below.refl _ _).setCell (p := ⟨_, 0, none⟩) (by simp; omega) _))⟩
      -- END
    · have HS2 := Lib.hid (show sumF (tmN R day) (R.hs.take (k + 1)) = T by rw [HS.out, if_neg hdm]; omega)
      have HU2 := Lib.hid (show sumF (tmD R day) (R.hs.take (k + 1)) = U by rw [HU.out, if_neg hdm]; omega)
      clear HS HU
      gi_wp2
      exact ⟨Stay.refl, by rw [HS2.out]; exact HC.out, by rw [HU2.out]; exact HDD.out, HYY.out, HB.out⟩
  case done =>
    rintro D W hD ⟨hn, hd, hy, hb⟩ hK
    have hnc := hn.cell
    have hnf := hn.frozen
    have hdc := hd.cell
    have hdf := hd.frozen
    rw [List.take_length] at hnc hdc hn hd
    have hfol : Try.prog.follows .mixedOrders = true := by kernel_rfl
    gi_wp2_with fail
    gi_region
    all_goals
      gi_wp2
      have bn := boxed_drew ((hn.set (.int .i64 (sumF (tmN R day) R.hs))).other (B' := w.heap.size + 1 + 1 + 1) (by omega) (.int .i64 (sumF (tmD R day) R.hs)))
      have bd := boxed_drew ((hd.other (B' := w.heap.size + 1 + 1) (by omega) (.int .i64 (sumF (tmN R day) R.hs))).set (.int .i64 (sumF (tmD R day) R.hs)))
      have hK' := (Below.heap_setCell (W.setCell ⟨w.heap.size + 1 + 1, 0, none⟩ (.int .i64 (sumF (tmN R day) R.hs))) ⟨w.heap.size + 1 + 1 + 1, 0, none⟩ (.int .i64 (sumF (tmD R day) R.hs)) D (by simp; omega)).trans ((Below.heap_setCell W ⟨w.heap.size + 1 + 1, 0, none⟩ (.int .i64 (sumF (tmN R day) R.hs)) D (by simp; omega)).trans hK)
      have hbW := bdr (B := w.heap.size) ((hb.setCell (p := ⟨w.heap.size + 1 + 1, 0, none⟩) (by simp; omega) (.int .i64 (sumF (tmN R day) R.hs))).setCell (p := ⟨w.heap.size + 1 + 1 + 1, 0, none⟩) (by simp; omega) (.int .i64 (sumF (tmD R day) R.hs)))
      generalize hWe : World.drew _ = We at bn bd hbW ⊢
      have hK2 : We.heap[D]? = some (.deferred (some [])) := by rw [← hWe]; exact hK'
      clear hWe hK'
      have cn := fun o => (boxed_put (D := D) (o := o) bn (by omega)).cell
      have cd := fun o => (boxed_put (D := D) (o := o) bd (by omega)).cell
      refine ⟨by simp, .inl ⟨_, _, rfl, run_takeDeferred hK2, ?_⟩⟩
      exact ⟨.tuple #[.int .i64 (sumF (tmN R day) R.hs), .int .i64 (sumF (tmD R day) R.hs), .int .i64 0], by simp [results, Try.results63, go_sem, cn, cd], by rw [HN.out, HD.out, HE.out], hbW.trans (below_put (by omega))⟩
end Go.Proofs.Ytpoidaenkjjdfaa
namespace Go.Proofs.Ytpoidaenkjjdfaa
open Go.RowKit
set_option linter.unusedVariables false
set_option linter.unusedSimpArgs false
theorem pathB_sh {L : List Int} (h : pathB L = true) (b : Int) : pathB (shL b L) = true := by
  have hl := pathB_len h
  unfold pathB at h ⊢
  rw [shL_len]
  simp only [Bool.and_eq_true, Bool.not_eq_true', decide_eq_true_eq] at h ⊢
  refine ⟨hl, ?_⟩
  unfold badR at h ⊢
  rw [List.any_eq_false] at h ⊢
  intro x hx
  unfold shL at hx
  obtain ⟨y, hy, rfl⟩ := List.mem_map.1 hx
  have := h.2 y hy
  simp only [Bool.not_eq_true', Bool.not_eq_false] at this ⊢
  unfold shR
  rw [if_pos this]
  exact inB_iff.2 (by omega)
theorem prE_sh {R : Reg} {y0 : Int} {L : List Int} (h : prE R y0 L = 0) (b : Int) : prE R y0 (shL b L) = 0 := by
  obtain ⟨h1, h2, h3, h4⟩ := prE_zero h
  unfold prE; rw [if_pos (chkE_iff.2 h1), if_pos (pathB_sh h2 b), if_pos (inB_iff.2 ⟨h3, h4⟩)]
/-- what a year costs more -/
def csD (R : Reg) (y0 : Int) (L : List Int) (b : Int) (k : Nat) : Int := prjI R y0 (shL b L) k - prjI R y0 L k
def csE (R : Reg) (y0 : Int) (L : List Int) (b : Int) : Int := if prE R y0 L = 0 then (if inB b (-20000) 20000 then 0 else 2) else prE R y0 L
def csV (R : Reg) (y0 : Int) (L : List Int) (b : Int) : Int := if csE R y0 L b = 0 then sumF (csD R y0 L b) (List.range L.length) else 0
theorem csD_bd {R : Reg} (h : RgOk R) {y0 : Int} {L : List Int} (hp : pathB L = true) (b : Int) (k : Nat) : -4000000000001 ≤ csD R y0 L b k ∧ csD R y0 L b k ≤ 4000000000001 := by
  have h1 := rais_bd h y0 k
  have h2 := oldR_bd hp k
  have h3 := oldR_bd (pathB_sh hp b) k
  have m1 := mul_bd h1.1 h1.2 h2.1 h2.2
  have m2 := mul_bd h1.1 h1.2 h3.1 h3.2
  unfold csD prjI
  omega
theorem prjI_bd {R : Reg} (h : RgOk R) {y0 : Int} {L : List Int} (hp : pathB L = true) (k : Nat) : 0 ≤ prjI R y0 L k ∧ prjI R y0 L k ≤ 304000000000001 := by
  have h1 := rais_bd h y0 k
  have h2 := oldR_bd hp k
  have h3 := coup_bd h (y0 + k)
  have m1 := mul_bd h1.1 h1.2 h2.1 h2.2
  unfold prjI
  omega
theorem sumF_bd2 {α : Type} {f : α → Int} {B : Int} : ∀ {L : List α}, (∀ x ∈ L, -B ≤ f x ∧ f x ≤ B) → -(B * L.length) ≤ sumF f L ∧ sumF f L ≤ B * L.length
  | [], _ => by simp [sumF]
  | x :: L, h => by
    have h1 := h x (List.mem_cons_self ..)
    have h2 := sumF_bd2 (L := L) (B := B) fun y hy => h y (List.mem_cons_of_mem _ hy)
    simp only [sumF, List.length_cons]
    rw [show ((L.length + 1 : Nat) : Int) = (L.length : Int) + 1 by omega, Int.mul_add]
    omega
theorem csS_bd {R : Reg} (h : RgOk R) {y0 : Int} {L : List Int} (hp : pathB L = true) (b : Int) {k : Nat} (hk : k ≤ 60) : -240000000000060 ≤ sumF (csD R y0 L b) (List.range k) ∧ sumF (csD R y0 L b) (List.range k) ≤ 240000000000060 := by
  have := sumF_bd2 (f := csD R y0 L b) (L := List.range k) (B := 4000000000001) fun j _ => csD_bd h hp b j
  rw [List.length_range] at this
  omega
theorem csS_succ (f : Nat → Int) (k : Nat) : sumF f (List.range (k + 1)) = sumF f (List.range k) + f k := by rw [List.range_succ, sumF_app]; simp [sumF]
set_option maxHeartbeats 4000000 in
set_option maxRecDepth 100000 in
theorem cost_any (P P2 : Nat → Prop) (vs vh vm v : Value) (R : Reg) (y0 b : Int) (L : List Int) (w : World) (hr : RgIn P w vs vh vm R) (hS : R.secs.length ≤ 1000000) (hH : R.hs.length ≤ 1000000) (hM : R.ms.length ≤ 1000000)
    (hv : Sl 1 encI P2 w v L) (hv1 : L.length ≤ 1000000) :
    Calls Try.prog 56 #[.agg #[vs, vh, vm], .int .i64 y0, v, .int .i64 b] w fun e w' => e = .returned (.tuple #[.int .i64 (csV R y0 L b), .int .i64 (csE R y0 L b)]) ∧ Below w.heap.size w w' := by
  obtain ⟨a0, n0, c0, rfl, -, -, -⟩ := hr.S.shape
  obtain ⟨a1, n1, c1, rfl, -, -, -⟩ := hr.H.shape
  obtain ⟨a2, n2, c2, rfl, -, -, -⟩ := hr.M.shape
  obtain ⟨a3, n3, c3, rfl, hl3, hnc3, hcm3⟩ := hv.shape
  have HR := Lib.hid hr
  have HV := Lib.hid hv
  have hn3 : n3 ≤ 1000000 := by omega
  have HP1 := Lib.hid (fun W (hW : Below w.heap.size w W) => project_any P P2 _ _ _ _ R y0 L W (hr.below (w' := W) hW) hS hH hM (hv.below hW) hv1)
  have HSH := Lib.hid (fun W (hW : Below w.heap.size w W) => shifted_any P2 _ L b W (hv.below hW) hv1)
  have HP2 := Lib.hid (fun W (hW : Below w.heap.size w W) v2 (P3 : Nat → Prop) (h3 : Sl 1 encI P3 W v2 (shL b L)) => project_any P P3 _ _ _ v2 R y0 (shL b L) W (hr.below (w' := W) hW) hS hH hM h3 (by rw [shL_len]; exact hv1))
  have HBB := Lib.hid (fun (W : World) => amongK_any b (-20000) 20000 W)
  have hz : csE R y0 L b ≠ 0 → csV R y0 L b = 0 := fun h => by unfold csV; rw [if_neg h]
  have HZ := Lib.hid hz
  clear hr hv hz
  by_cases h0 : prE R y0 L = 0
  rotate_left
  · obtain ⟨E, hE⟩ : ∃ E, prE R y0 L = E := ⟨_, rfl⟩
    rw [hE] at h0 HP1
    have hE1 : (E != 0) = true := by simpa using h0
    have hE2 : (E == 0) = false := by simpa using h0
    have HE := Lib.hid (show csE R y0 L b = E by unfold csE; rw [hE, if_neg h0])
    have HN := Lib.hid (HZ.out (by rw [HE.out]; exact h0))
    clear hE
    go_enter Try.func56, Try.ntmps56
    go_wp2_with fail
    refine (HP1.out _ (bal brefl _)).mono ?_
    rintro e w1 ⟨v1, rfl, hown, hb1⟩
    obtain ⟨f1, k1, rfl⟩ := own_slice0 hown
    have HB1 := Lib.hid (bup (bal brefl _) hb1)
    clear hb1 hown
    go_wp2
    go_ret2
    exact ⟨by rw [HN.out, HE.out]; rfl, HB1.out⟩
  rw [h0] at HP1
  have h00 := h0
  have H0 := Lib.hid h0
  obtain ⟨hok, hpb, hy0, hy1⟩ := prE_zero h00
  clear h0 h00
  cases hbb : inB b (-20000) 20000
  · rw [hbb] at HBB
    have HE := Lib.hid (show csE R y0 L b = 2 by unfold csE; rw [H0.out, hbb]; rfl)
    have HN := Lib.hid (HZ.out (by rw [HE.out]; decide))
    clear hbb
    go_enter Try.func56, Try.ntmps56
    go_wp2_with fail
    refine (HP1.out _ (bal brefl _)).mono ?_
    rintro e w1 ⟨v1, rfl, hown, hb1⟩
    obtain ⟨f1, k1, rfl⟩ := own_slice0 hown
    have HB1 := Lib.hid (bup (bal brefl _) hb1)
    clear hb1 hown
    go_wp2_with fail
    refine (HBB.out _).mono ?_
    rintro e w2 ⟨rfl, rfl⟩
    go_wp2
    go_ret2
    exact ⟨by rw [HN.out, HE.out]; rfl, HB1.out⟩
  rw [hbb] at HBB
  have HE := Lib.hid (show csE R y0 L b = 0 by unfold csE; rw [H0.out, hbb]; rfl)
  have HN := Lib.hid (show csV R y0 L b = sumF (csD R y0 L b) (List.range n3) by unfold csV; rw [HE.out, if_pos rfl, hl3])
  have HE2 := Lib.hid (prE_sh H0.out b)
  have HLA := Lib.hid (show (prL R y0 L).length = n3 by unfold prL; rw [if_pos H0.out]; simp [hl3])
  have HLB := Lib.hid (show (prL R y0 (shL b L)).length = n3 by unfold prL; rw [if_pos HE2.out]; simp [shL_len, hl3])
  have hn60 : n3 ≤ 60 := by have := (pathB_len hpb).2; omega
  have HOK := Lib.hid hok
  have HPB := Lib.hid hpb
  clear hbb hok hpb
  go_enter Try.func56, Try.ntmps56
  go_wp2_with fail
  refine (HP1.out _ (bal brefl _)).mono ?_
  rintro e w1 ⟨v1, rfl, hown, hb1⟩
  rw [HLA.out] at hown
  obtain ⟨f1, k1, rfl⟩ := own_slice0 hown
  have r0 := (show w1.cell? ⟨w.heap.size, 0, none⟩ = some (.slice a0 n0 c0) from boxed_cell hb1 0 rfl)
  have r1 := (show w1.cell? ⟨w.heap.size, 1, none⟩ = some (.slice a1 n1 c1) from boxed_cell hb1 1 rfl)
  have r2 := (show w1.cell? ⟨w.heap.size, 2, none⟩ = some (.slice a2 n2 c2) from boxed_cell hb1 2 rfl)
  have HB1 := Lib.hid (bup (bal brefl _) hb1)
  have HO1 := Lib.hid (Sl.own (P := fun _ => True) encSvc_len hown HLA.out (fun _ _ => trivial))
  clear hown hb1
  go_wp2_with fail
  refine (HBB.out _).mono ?_
  rintro e w2 ⟨rfl, rfl⟩
  go_upto_region 6 with fail
  go_cut [11, 12] (fun ev v2 wx => ∃ fo fc, v2 = .slice fo n3 fc ∧ ev = .int .i64 0 ∧ Sl 4 encSvc (fun _ => True) wx v2 (prL R y0 (shL b L)) ∧ Below w1.heap.size w1 wx)
  case first =>
    go_region_with (first
      | (go_at_call 52; refine (HSH.out _ ?_).mono ?_; (· first | exact HB1.out | exact bdr HB1.out); rintro e w3 ⟨v3, rfl, hown3, hb3⟩; have HX3 := Lib.hid (show Below w1.heap.size w1 w3 by first | exact hb3 | exact bup (bdr brefl) hb3); have HO3 := Lib.hid (Sl.own (P := fun _ => True) encI_len hown3 rfl (fun _ _ => trivial)); obtain ⟨f3, k3, rfl⟩ := own_slice0 hown3; have s0 := keepB HX3.out r0; have s1 := keepB HX3.out r1; have s2 := keepB HX3.out r2; clear hown3 hb3)
      | (go_at_call 54; refine (HP2.out _ ?_ _ _ HO3.out).mono ?_; (· exact bup HB1.out HX3.out); rw [HE2.out]; rintro e w4 ⟨v4, rfl, hown4, hb4⟩; have HX4 := Lib.hid (bup HX3.out hb4); rw [HLB.out] at hown4; have HO4 := Lib.hid (Sl.own (P := fun _ => True) encSvc_len hown4 HLB.out (fun _ _ => trivial)); obtain ⟨f4, k4, rfl⟩ := own_slice0 hown4; clear hown4 hb4))
    all_goals (go_wp2_with fail; go_meet)
    all_goals exact ⟨_, _, rfl, rfl, HO4.out, HX4.out⟩
  case rest =>
    obtain ⟨f2, k2, rfl, rfl, hO2, hBX⟩ := hcut
    have HO2 := Lib.hid hO2
    have HBX := Lib.hid (bup HB1.out hBX)
    have HO1' := Lib.hid (HO1.out.below hBX)
    clear hO2 hBX HP1 HP2 HSH HBB r0 r1 r2
    go_wp2_with fail
    generalize hW : wc = W at *
    go_loopw [13, 44] (fun sv iv wr => ∃ k : Nat, k ≤ n3 ∧ iv = .int .i64 k ∧ sv = .int .i64 (sumF (csD R y0 L b) (List.range k)) ∧ Below W.heap.size W wr) (fun _ iv _ => n3 - (intOf iv).toNat)
    case atStart => exact ⟨0, by omega, rfl, rfl, brefl⟩
    case round =>
      obtain ⟨k, hk, rfl, rfl, hbr⟩ := hrel
      have hsb := csS_bd HOK.out HPB.out (y0 := y0) b (k := k) (by omega)
      by_cases hlt : k < n3
      · obtain ⟨bA, oA, yA, iA, pA, dA, rfl, -, hblA, hxA, xA0, xA1, xA2, xA3⟩ := (HO1'.out.below hbr).svc hlt
        obtain ⟨bB, oB, yB, iB, pB, dB, rfl, -, hblB, hxB, xB0, xB1, xB2, xB3⟩ := (HO2.out.below hbr).svc hlt
        have eA : iA = prjI R y0 L k := congrArg Svc.i (prL_at H0.out hxA)
        have eB : iB = prjI R y0 (shL b L) k := congrArg Svc.i (prL_at HE2.out hxB)
        have bdA := prjI_bd HOK.out (y0 := y0) HPB.out k
        have bdB := prjI_bd HOK.out (y0 := y0) (pathB_sh HPB.out b) k
        rw [← eA] at bdA
        rw [← eB] at bdB
        have HSS := Lib.hid (show sumF (csD R y0 L b) (List.range (k + 1)) = sumF (csD R y0 L b) (List.range k) + (iB - iA) by rw [csS_succ, eA, eB]; rfl)
        obtain ⟨T, hT⟩ : ∃ T, sumF (csD R y0 L b) (List.range k) = T := ⟨_, rfl⟩
        rw [hT] at hsb HSS ⊢
        clear eA eB hxA hxB hT
        go_wp2
        go_quiet (fail)
        go_wp2
        go_roundw
        case rel => exact ⟨k + 1, by omega, by go_num, by rw [HSS.out], ⟨hbr.os, hbr.tape, hbr.output, hbr.size, hbr.block⟩⟩
        case measure => simp [intOf]; omega
      · obtain rfl : k = n3 := by omega
        have HBR := Lib.hid (bup HBX.out hbr)
        have HT1 := Lib.hid (show inB (sumF (csD R y0 L b) (List.range k)) (-1000000000000000) 1000000000000000 = true from inB_iff.2 (by omega))
        clear hbr
        go_wp2_with (go_at_call 108; refine (total_any _ _).mono ?_; rw [HT1.out]; rintro e w' ⟨rfl, rfl⟩)
        go_ret2
        exact ⟨by rw [HN.out, HE.out]; rfl, HBR.out⟩
end Go.Proofs.Ytpoidaenkjjdfaa
