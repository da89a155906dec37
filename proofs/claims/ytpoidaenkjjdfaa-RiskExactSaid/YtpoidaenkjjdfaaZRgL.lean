/- treasury/risk's debt.falls, debt.later. treasury/risk's debt.later; printed by wip/gen/rgl.py. -/
import Derived.Test.YtpoidaenkjjdfaaZRgP
namespace Go.Proofs.Ytpoidaenkjjdfaa
open Go.RowKit Go.Shelf
set_option linter.unusedVariables false
set_option linter.unusedSimpArgs false
attribute [local go_sem] Oper.semAt_some
set_option maxHeartbeats 4000000 in
set_option maxRecDepth 100000 in
theorem rfalls_any (P : Nat → Prop) (vs vh vm : Value) (R : Reg) (y : Int) (w : World) (hr : RgIn P w vs vh vm R) (hS : R.secs.length ≤ 1000000) (hz : RhOk R) :
    Calls Try.prog 106 #[.agg #[vs, vh, vm], .int .i64 y] w fun e w' => e = .returned (.int .i64 (sumF (fallF R y) R.hs)) ∧ Below w.heap.size w w' := by
  have HR := Lib.hid (hr.mono (Q := fun b => b < w.heap.size) fun b _ h => h)
  clear hr
  refine (callsIn_wide (n := 3)).1 ?_
  refine callsIn_of_wp_marks Try.func106 rfl trivial ?_ rfl
  obtain ⟨a0, n0, c0, rfl, -, -, -⟩ := HR.out.S.shape
  obtain ⟨a1, n1, c1, rfl, -, -, -⟩ := HR.out.H.shape
  obtain ⟨a2, n2, c2, rfl, -, -, -⟩ := HR.out.M.shape
  simp only [Try.ntmps106, List.size_toArray, List.length_cons, List.length_nil, Nat.reduceAdd, Nat.reduceSub, Array.replicate_succ, Array.replicate_zero, List.push_toArray, List.append_toArray, List.nil_append, List.cons_append]
  gi_wp2
  obtain ⟨W0, hW0⟩ : ∃ W0, ((w.alloc (Obj.cells #[Value.slice a0 n0 c0, Value.slice a1 n1 c1, Value.slice a2 n2 c2] 144)).alloc (Obj.cells #[Value.int IntKind.i64 y] 3)).alloc (Obj.cells #[Value.int IntKind.i64 0] 3) = W0 := ⟨_, rfl⟩
  have hb0 : Below w.heap.size w W0 := by rw [← hW0]; exact bal (bal (bal brefl _) _) _
  have hs0 : W0.heap.size = w.heap.size + 3 := by rw [← hW0]; simp
  have hy0 : Boxed W0 (w.heap.size + 1) 3 (.int .i64 y) := by
    rw [← hW0]; have := Boxed.new (w.alloc (Obj.cells #[Value.slice a0 n0 c0, Value.slice a1 n1 c1, Value.slice a2 n2 c2] 144)) 3 (.int .i64 y); rw [World.size_alloc] at this; exact this.alloc _
  have hc0 : Boxed W0 (w.heap.size + 2) 3 (.int .i64 0) := by
    rw [← hW0]; have := Boxed.new ((w.alloc (Obj.cells #[Value.slice a0 n0 c0, Value.slice a1 n1 c1, Value.slice a2 n2 c2] 144)).alloc (Obj.cells #[Value.int IntKind.i64 y] 3)) 3 (.int .i64 0); rw [World.size_alloc, World.size_alloc] at this; exact this
  rw [hW0]
  clear hW0
  refine wpIn_rangeB (N := w.heap.size) (xs := R.hs) (encs := encE R) rfl (by omega) rfl trivial (enters_of Try.func116 (by kernel_rfl) rfl) (by omega)
    (each_stops (3 - 1) w.heap.size _ _ _ R W0 (HR.out.belowN hb0) (by omega) hS (Nat.le_trans hz.len (by omega))) (fun _ => rfl)
    (fun k W => Boxed W (w.heap.size + 1 + 1) 3 (.int .i64 (sumF (fallF R y) (R.hs.take k))) ∧ Boxed W (w.heap.size + 1) 3 (.int .i64 y) ∧ Below w.heap.size w W)
    (fun k A B h hb => ⟨(hb.block _ (by omega)).trans h.1, (hb.block _ (by omega)).trans h.2.1, h.2.2.trans (hb.mono (by omega))⟩)
    ⟨hc0, hy0, hb0⟩
    (fun x a' W => ∃ b1 b2, w.heap.size + 5 ≤ b1 ∧ w.heap.size + 5 ≤ b2 ∧ a' = { tmps := #[Value.agg #[Value.slice a0 n0 c0, Value.slice a1 n1 c1, Value.slice a2 n2 c2], Value.int IntKind.i64 y, Value.pointer (some ⟨w.heap.size, 0, none⟩), Value.pointer (some ⟨w.heap.size + 1, 0, none⟩), Value.int IntKind.i64 0, Value.pointer (some ⟨w.heap.size + 1 + 1, 0, none⟩), Value.pointer (some ⟨b1, 0, none⟩), Value.pointer (some ⟨b2, 0, none⟩), Value.agg #[Value.slice a0 n0 c0, Value.slice a1 n1 c1, Value.slice a2 n2 c2], Value.func (Fn.func 116) #[Value.agg #[Value.slice a0 n0 c0, Value.slice a1 n1 c1, Value.slice a2 n2 c2]] #[], aggSec (secOf R x), aggHold x, undef, undef, undef, undef, undef, undef, undef, undef, undef, undef], defers := [] } ∧
      W.heap[b1]? = some (.cells (encSec (secOf R x)).toArray 29 (0, 0)) ∧ W.heap[b2]? = some (.cells (encHold x).toArray 98 (0, 0)))
    (fun x a' A B h hb hl => by
      obtain ⟨b1, b2, h1, h2, h3, h4, h5⟩ := h
      exact ⟨b1, b2, h1, h2, h3, (hb _ (by omega) (Array.getElem?_eq_some_iff.1 h4).1).trans h4, (hb _ (by omega) (Array.getElem?_eq_some_iff.1 h5).1).trans h5⟩)
    ?assign ?body ?done
  case assign =>
    intro l k x W K hsz hK
    simp only [encE, aggSec, aggHold]
    gi_wp2
    refine hK _ _ (bal (bal brefl _) _) ⟨W.heap.size, W.heap.size + 1, by omega, by omega, rfl, ?_, ?_⟩
    · exact (Below.heap_alloc _ _ _ (by simp)).trans (World.alloc_heap_new W _)
    · have := World.alloc_heap_new (W.alloc (Obj.cells (encSec (secOf R x)).toArray 29 (0, 0))) (Obj.cells (encHold x).toArray 98 (0, 0)); rw [World.size_alloc] at this; exact this
  case body =>
    rintro l k x a' W hsz hx ⟨hc, hy, hb⟩ ⟨b1, b2, h1, h2, rfl, h4, h5⟩
    have hm : x ∈ R.hs := List.mem_of_getElem? hx
    obtain ⟨T, hT⟩ : ∃ T, sumF (fallF R y) (R.hs.take k) = T := ⟨_, rfl⟩
    have hTb := sumF_bdk (k := k) (by omega) (fallF_bd hz y) hz.len
    have hT2 := sumF_take (f := fallF R y) hx
    have ham := hz.amt x hm
    rw [hT] at hc hT2 hTb
    have HS := Lib.hid hT2
    obtain ⟨m, hm'⟩ : ∃ m, (secOf R x).ma = m := ⟨_, rfl⟩
    obtain ⟨q, hq⟩ : ∃ q, yrOf m = q := ⟨_, rfl⟩
    have hma : W.cell? ⟨b1, 3, none⟩ = some (.int .i64 m) := by rw [← hm']; unfold World.cell?; simp [h4, encSec]
    have hxa : W.cell? ⟨b2, 2, none⟩ = some (.int .i64 x.a) := by unfold World.cell?; simp [h5, encHold]
    have hyc := hy.cell
    have hcc := hc.cell
    have hcf := hc.frozen
    have HF := Lib.hid (show fallF R y x = if q = y then x.a else 0 by unfold fallF; rw [hm', hq])
    have HY := Lib.hid (fun (U : World) => year_any m U)
    rw [hq] at HY
    have HC := Lib.hid hc
    have HYY := Lib.hid hy
    have HB := Lib.hid hb
    have HX := Lib.hid hx
    have hs2 : w.heap.size + 1 + 1 < W.heap.size := by omega
    clear hT hT2 hm' hq h4 h5 hc hy hb hx hy0 hc0 hb0
    have hfol : Try.prog.follows .mixedOrders = true := by kernel_rfl
    by_cases hqy : q = y
    · subst hqy
      have HS2 := Lib.hid (show sumF (fallF R q) (R.hs.take (k + 1)) = T + x.a by rw [HS.out, HF.out, if_pos rfl])
      clear HS HF
      gi_wp2_with fail
      gi_region_with_o (refine ⟨trivial, (CallsIn.inRound l (callsIn_wide.2 (HY.out _))).mono ?_⟩; rintro e w' ⟨rfl, rfl⟩)
      all_goals
        gi_wp2
        exact ⟨stay_drew.trans (stay_set (by omega) (by omega) _), by rw [HS2.out]; exact (boxed_drew HC.out).set _, (boxed_drew HYY.out).other (by omega) _, HB.out.trans ((stay_drew (M := 0)).low.trans ((Below.refl _ _).setCell (p := ⟨_, 0, none⟩) (by simp; omega) _))⟩
    · have HS2 := Lib.hid (show sumF (fallF R y) (R.hs.take (k + 1)) = T by rw [HS.out, HF.out, if_neg hqy]; omega)
      clear HS HF
      gi_wp2_with fail
      gi_region_with_o (refine ⟨trivial, (CallsIn.inRound l (callsIn_wide.2 (HY.out _))).mono ?_⟩; rintro e w' ⟨rfl, rfl⟩)
      all_goals
        gi_wp2
        exact ⟨stay_drew, by rw [HS2.out]; exact boxed_drew HC.out, boxed_drew HYY.out, HB.out.trans (stay_drew (M := 0)).low⟩
  case done =>
    rintro D W hD ⟨hc, hy, hb⟩ hK
    have hcc := hc.cell
    rw [List.take_length] at hcc
    gi_wp2
    refine ⟨by simp, .inl ⟨_, _, rfl, run_takeDeferred hK, ?_⟩⟩
    exact ⟨_, results_tmp rfl _ _ _, rfl, hb.trans (below_put (by omega))⟩
end Go.Proofs.Ytpoidaenkjjdfaa
namespace Go.Proofs.Ytpoidaenkjjdfaa
open Go.RowKit Go.Shelf
set_option linter.unusedVariables false
set_option linter.unusedSimpArgs false
attribute [local go_sem] Oper.semAt_some
set_option maxHeartbeats 4000000 in
set_option maxRecDepth 100000 in
theorem rlater_any (P : Nat → Prop) (vs vh vm : Value) (R : Reg) (y : Int) (w : World) (hr : RgIn P w vs vh vm R) (hS : R.secs.length ≤ 1000000) (hz : RhOk R) :
    Calls Try.prog 107 #[.agg #[vs, vh, vm], .int .i64 y] w fun e w' => e = .returned (.int .i64 (sumF (lateF R y) R.hs)) ∧ Below w.heap.size w w' := by
  have HR := Lib.hid (hr.mono (Q := fun b => b < w.heap.size) fun b _ h => h)
  clear hr
  refine (callsIn_wide (n := 3)).1 ?_
  refine callsIn_of_wp_marks Try.func107 rfl trivial ?_ rfl
  obtain ⟨a0, n0, c0, rfl, -, -, -⟩ := HR.out.S.shape
  obtain ⟨a1, n1, c1, rfl, -, -, -⟩ := HR.out.H.shape
  obtain ⟨a2, n2, c2, rfl, -, -, -⟩ := HR.out.M.shape
  simp only [Try.ntmps107, List.size_toArray, List.length_cons, List.length_nil, Nat.reduceAdd, Nat.reduceSub, Array.replicate_succ, Array.replicate_zero, List.push_toArray, List.append_toArray, List.nil_append, List.cons_append]
  gi_wp2
  obtain ⟨W0, hW0⟩ : ∃ W0, ((w.alloc (Obj.cells #[Value.slice a0 n0 c0, Value.slice a1 n1 c1, Value.slice a2 n2 c2] 144)).alloc (Obj.cells #[Value.int IntKind.i64 y] 3)).alloc (Obj.cells #[Value.int IntKind.i64 0] 3) = W0 := ⟨_, rfl⟩
  have hb0 : Below w.heap.size w W0 := by rw [← hW0]; exact bal (bal (bal brefl _) _) _
  have hs0 : W0.heap.size = w.heap.size + 3 := by rw [← hW0]; simp
  have hy0 : Boxed W0 (w.heap.size + 1) 3 (.int .i64 y) := by
    rw [← hW0]; have := Boxed.new (w.alloc (Obj.cells #[Value.slice a0 n0 c0, Value.slice a1 n1 c1, Value.slice a2 n2 c2] 144)) 3 (.int .i64 y); rw [World.size_alloc] at this; exact this.alloc _
  have hc0 : Boxed W0 (w.heap.size + 2) 3 (.int .i64 0) := by
    rw [← hW0]; have := Boxed.new ((w.alloc (Obj.cells #[Value.slice a0 n0 c0, Value.slice a1 n1 c1, Value.slice a2 n2 c2] 144)).alloc (Obj.cells #[Value.int IntKind.i64 y] 3)) 3 (.int .i64 0); rw [World.size_alloc, World.size_alloc] at this; exact this
  rw [hW0]
  clear hW0
  refine wpIn_rangeB (N := w.heap.size) (xs := R.hs) (encs := encE R) rfl (by omega) rfl trivial (enters_of Try.func116 (by kernel_rfl) rfl) (by omega)
    (each_stops (3 - 1) w.heap.size _ _ _ R W0 (HR.out.belowN hb0) (by omega) hS (Nat.le_trans hz.len (by omega))) (fun _ => rfl)
    (fun k W => Boxed W (w.heap.size + 1 + 1) 3 (.int .i64 (sumF (lateF R y) (R.hs.take k))) ∧ Boxed W (w.heap.size + 1) 3 (.int .i64 y) ∧ Below w.heap.size w W)
    (fun k A B h hb => ⟨(hb.block _ (by omega)).trans h.1, (hb.block _ (by omega)).trans h.2.1, h.2.2.trans (hb.mono (by omega))⟩)
    ⟨hc0, hy0, hb0⟩
    (fun x a' W => ∃ b1 b2, w.heap.size + 5 ≤ b1 ∧ w.heap.size + 5 ≤ b2 ∧ a' = { tmps := #[Value.agg #[Value.slice a0 n0 c0, Value.slice a1 n1 c1, Value.slice a2 n2 c2], Value.int IntKind.i64 y, Value.pointer (some ⟨w.heap.size, 0, none⟩), Value.pointer (some ⟨w.heap.size + 1, 0, none⟩), Value.int IntKind.i64 0, Value.pointer (some ⟨w.heap.size + 1 + 1, 0, none⟩), Value.pointer (some ⟨b1, 0, none⟩), Value.pointer (some ⟨b2, 0, none⟩), Value.agg #[Value.slice a0 n0 c0, Value.slice a1 n1 c1, Value.slice a2 n2 c2], Value.func (Fn.func 116) #[Value.agg #[Value.slice a0 n0 c0, Value.slice a1 n1 c1, Value.slice a2 n2 c2]] #[], aggSec (secOf R x), aggHold x, undef, undef, undef, undef, undef, undef, undef, undef, undef, undef], defers := [] } ∧
      W.heap[b1]? = some (.cells (encSec (secOf R x)).toArray 29 (0, 0)) ∧ W.heap[b2]? = some (.cells (encHold x).toArray 98 (0, 0)))
    (fun x a' A B h hb hl => by
      obtain ⟨b1, b2, h1, h2, h3, h4, h5⟩ := h
      exact ⟨b1, b2, h1, h2, h3, (hb _ (by omega) (Array.getElem?_eq_some_iff.1 h4).1).trans h4, (hb _ (by omega) (Array.getElem?_eq_some_iff.1 h5).1).trans h5⟩)
    ?assign ?body ?done
  case assign =>
    intro l k x W K hsz hK
    simp only [encE, aggSec, aggHold]
    gi_wp2
    refine hK _ _ (bal (bal brefl _) _) ⟨W.heap.size, W.heap.size + 1, by omega, by omega, rfl, ?_, ?_⟩
    · exact (Below.heap_alloc _ _ _ (by simp)).trans (World.alloc_heap_new W _)
    · have := World.alloc_heap_new (W.alloc (Obj.cells (encSec (secOf R x)).toArray 29 (0, 0))) (Obj.cells (encHold x).toArray 98 (0, 0)); rw [World.size_alloc] at this; exact this
  case body =>
    rintro l k x a' W hsz hx ⟨hc, hy, hb⟩ ⟨b1, b2, h1, h2, rfl, h4, h5⟩
    have hm : x ∈ R.hs := List.mem_of_getElem? hx
    obtain ⟨T, hT⟩ : ∃ T, sumF (lateF R y) (R.hs.take k) = T := ⟨_, rfl⟩
    have hTb := sumF_bdk (k := k) (by omega) (lateF_bd hz y) hz.len
    have hT2 := sumF_take (f := lateF R y) hx
    have ham := hz.amt x hm
    rw [hT] at hc hT2 hTb
    have HS := Lib.hid hT2
    obtain ⟨m, hm'⟩ : ∃ m, (secOf R x).ma = m := ⟨_, rfl⟩
    obtain ⟨q, hq⟩ : ∃ q, yrOf m = q := ⟨_, rfl⟩
    have hma : W.cell? ⟨b1, 3, none⟩ = some (.int .i64 m) := by rw [← hm']; unfold World.cell?; simp [h4, encSec]
    have hxa : W.cell? ⟨b2, 2, none⟩ = some (.int .i64 x.a) := by unfold World.cell?; simp [h5, encHold]
    have hyc := hy.cell
    have hcc := hc.cell
    have hcf := hc.frozen
    have HF := Lib.hid (show lateF R y x = if q > y then x.a else 0 by unfold lateF; rw [hm', hq])
    have HY := Lib.hid (fun (U : World) => year_any m U)
    rw [hq] at HY
    have HC := Lib.hid hc
    have HYY := Lib.hid hy
    have HB := Lib.hid hb
    have HX := Lib.hid hx
    have hs2 : w.heap.size + 1 + 1 < W.heap.size := by omega
    clear hT hT2 hm' hq h4 h5 hc hy hb hx hy0 hc0 hb0
    have hfol : Try.prog.follows .mixedOrders = true := by kernel_rfl
    by_cases hqy : q > y
    · have hqz : y < q := hqy
      have HS2 := Lib.hid (show sumF (lateF R y) (R.hs.take (k + 1)) = T + x.a by rw [HS.out, HF.out, if_pos hqy])
      clear HS HF
      gi_wp2_with fail
      gi_region_with_o (refine ⟨trivial, (CallsIn.inRound l (callsIn_wide.2 (HY.out _))).mono ?_⟩; rintro e w' ⟨rfl, rfl⟩)
      all_goals
        gi_wp2
        exact ⟨stay_drew.trans (stay_set (by omega) (by omega) _), by rw [HS2.out]; exact (boxed_drew HC.out).set _, (boxed_drew HYY.out).other (by omega) _, HB.out.trans ((stay_drew (M := 0)).low.trans ((Below.refl _ _).setCell (p := ⟨_, 0, none⟩) (by simp; omega) _))⟩
    · have HS2 := Lib.hid (show sumF (lateF R y) (R.hs.take (k + 1)) = T by rw [HS.out, HF.out, if_neg hqy]; omega)
      clear HS HF
      gi_wp2_with fail
      gi_region_with_o (refine ⟨trivial, (CallsIn.inRound l (callsIn_wide.2 (HY.out _))).mono ?_⟩; rintro e w' ⟨rfl, rfl⟩)
      all_goals
        gi_wp2
        exact ⟨stay_drew, by rw [HS2.out]; exact boxed_drew HC.out, boxed_drew HYY.out, HB.out.trans (stay_drew (M := 0)).low⟩
  case done =>
    rintro D W hD ⟨hc, hy, hb⟩ hK
    have hcc := hc.cell
    rw [List.take_length] at hcc
    gi_wp2
    refine ⟨by simp, .inl ⟨_, _, rfl, run_takeDeferred hK, ?_⟩⟩
    exact ⟨_, results_tmp rfl _ _ _, rfl, hb.trans (below_put (by omega))⟩
end Go.Proofs.Ytpoidaenkjjdfaa
