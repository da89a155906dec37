/- index.Pending's closures; coupon's add at them. Printed by wip/gen/ixp.py. -/
import Derived.Test.YtmhglabcnimegaaZCpnE
import Derived.Test.YtmhglabcnimegaaZIdx3
namespace Go.Proofs.Ytmhglabcnimegaa
open Go.RowKit
set_option linter.unusedVariables false
set_option linter.unusedSimpArgs false
theorem ip1_any (gx g gd : Nat) (fi : Int) (ao : Option Addr) (n c : Nat) (xs : Nat → Int) (a day : Int) (id un is ma ra ev : Int) (ix : Bool) (w : World) (h : IxOk w ao n c xs) (hX : w.heap[gx]? = some (.cells #[.int .i64 fi, .slice ao n c] 95 (0, 0))) (hS : w.heap[g]? = some (.cells #[.int .i64 id, .int .i64 un, .int .i64 is, .int .i64 ma, .int .i64 ra, .int .i64 ev, .bool ix] 41 (0, 0))) (hD : w.heap[gd]? = some (.cells #[.int .i64 day] 3 (0, 0))) :
    Calls Try.prog 129 #[.int .i64 a, .pointer (some ⟨gx, 0, none⟩), .pointer (some ⟨g, 0, none⟩), .pointer (some ⟨gd, 0, none⟩)] w fun e w' => e = .returned (.tuple #[.int .i64 (icV fi n xs id un is ma ra ev ix a day), .int .i64 (icE fi n xs id un is ma ra ev ix a day)]) ∧ Below w.heap.size w w' := by
  have x0 := cell_heap (i := 0) hX rfl
  have x1 := cell_heap (i := 1) hX rfl
  have s0 := cell_heap (i := 0) hS rfl
  have s1 := cell_heap (i := 1) hS rfl
  have s2 := cell_heap (i := 2) hS rfl
  have s3 := cell_heap (i := 3) hS rfl
  have s4 := cell_heap (i := 4) hS rfl
  have s5 := cell_heap (i := 5) hS rfl
  have s6 := cell_heap (i := 6) hS rfl
  have d0 := cell_heap (i := 0) hD rfl
  obtain ⟨C, hC⟩ : ∃ C, icV fi n xs id un is ma ra ev ix a day = C := ⟨_, rfl⟩
  obtain ⟨E, hE⟩ : ∃ E, icE fi n xs id un is ma ra ev ix a day = E := ⟨_, rfl⟩
  have HK := Lib.hid (idxcoupon_any fi ao n c xs id un is ma ra ev ix a day w h)
  rw [hC, hE] at HK
  rw [hC, hE]
  clear hC hE hX hS hD h
  go_enter Try.func129, Try.ntmps129
  go_wp2_with fail
  refine HK.out.mono ?_
  rintro e w1 ⟨rfl, hb⟩
  go_wp2
  go_ret2
  exact ⟨rfl, hb⟩
theorem ip2_any (gx g : Nat) (fi : Int) (ao : Option Addr) (n c : Nat) (xs : Nat → Int) (a : Int) (id un is ma ra ev : Int) (ix : Bool) (w : World) (h : IxOk w ao n c xs) (hX : w.heap[gx]? = some (.cells #[.int .i64 fi, .slice ao n c] 95 (0, 0))) (hS : w.heap[g]? = some (.cells #[.int .i64 id, .int .i64 un, .int .i64 is, .int .i64 ma, .int .i64 ra, .int .i64 ev, .bool ix] 41 (0, 0))) :
    Calls Try.prog 131 #[.int .i64 a, .pointer (some ⟨gx, 0, none⟩), .pointer (some ⟨g, 0, none⟩)] w fun e w' => e = .returned (.tuple #[.int .i64 (fnV fi n xs id un is ma ra ev ix a), .int .i64 (scE fi n xs id un is ma ra ev ix a ma)]) ∧ Below w.heap.size w w' := by
  have x0 := cell_heap (i := 0) hX rfl
  have x1 := cell_heap (i := 1) hX rfl
  have s0 := cell_heap (i := 0) hS rfl
  have s1 := cell_heap (i := 1) hS rfl
  have s2 := cell_heap (i := 2) hS rfl
  have s3 := cell_heap (i := 3) hS rfl
  have s4 := cell_heap (i := 4) hS rfl
  have s5 := cell_heap (i := 5) hS rfl
  have s6 := cell_heap (i := 6) hS rfl
  obtain ⟨C, hC⟩ : ∃ C, fnV fi n xs id un is ma ra ev ix a = C := ⟨_, rfl⟩
  obtain ⟨E, hE⟩ : ∃ E, scE fi n xs id un is ma ra ev ix a ma = E := ⟨_, rfl⟩
  have hK := final_any fi ao n c xs id un is ma ra ev ix a w h
  rw [hC, hE] at hK
  have HK := Lib.hid hK
  rw [hC, hE]
  clear hC hE hX hS h hK
  go_enter Try.func131, Try.ntmps131
  go_wp2_with fail
  refine HK.out.mono ?_
  rintro e w1 ⟨rfl, hb⟩
  go_wp2
  go_ret2
  exact ⟨rfl, hb⟩
set_option maxHeartbeats 4000000 in
set_option maxRecDepth 100000 in
theorem addX_any (hb ob db base : Nat) (kind day s h a : Int) (p : Option Addr) (len c : Nat) (L : List Due) (gx g gd : Nat) (C E : Int) (w : World) (hK : Calls Try.prog 129 #[.int .i64 a, .pointer (some ⟨gx, 0, none⟩), .pointer (some ⟨g, 0, none⟩), .pointer (some ⟨gd, 0, none⟩)] w fun e w' => e = .returned (.tuple #[.int .i64 C, .int .i64 E]) ∧ Below w.heap.size w w') (hH : w.heap[hb]? = some (.cells #[.int .i64 s, .int .i64 h, .int .i64 a] 93 (0, 0))) (hD : w.heap[db]? = some (.cells #[.int .i64 day] 3 (0, 0))) (hO : w.heap[ob]? = some (.cells #[.slice p len c] 78 (0, 0))) (hown : w.ownsRow base 82 5 (.slice p len c) len (flatE encDue L)) (hlen : len = L.length) (hl : len ≤ 100000) (hbase : base ≤ w.heap.size) (h1 : hb < base) (h2 : db < base) (h3 : ob < base) :
    Calls Try.prog 158 #[.int .i64 kind, .func (.func 129) #[] #[.pointer (some ⟨gx, 0, none⟩), .pointer (some ⟨g, 0, none⟩), .pointer (some ⟨gd, 0, none⟩)], .pointer (some ⟨hb, 0, none⟩), .pointer (some ⟨ob, 0, none⟩), .pointer (some ⟨db, 0, none⟩)] w (Added1 ob base (L ++ dueL day s h kind C) E w) := by
  obtain ⟨i1, hi, hz0, hz1, hz2⟩ := info_parts infoDue
  have x2 := cell_heap (i := 2) hH rfl
  have HK := Lib.hid hK
  clear hK
  have HH := Lib.hid hH
  have HD := Lib.hid hD
  have HO := Lib.hid hO
  have HW := Lib.hid hown
  have HL := Lib.hid hlen
  clear hlen
  go_enter Try.func158, Try.ntmps158
  go_wp2_with fail
  refine HK.out.mono ?_
  rintro e w1 ⟨rfl, hb⟩
  have z1 := hb.size
  have hH1 := (hb.block _ (by omega)).trans HH.out
  have hD1 := (hb.block _ (by omega)).trans HD.out
  have hO1 := (hb.block _ (by omega)).trans HO.out
  have HW1 := Lib.hid (ownsRow_belowZ HW.out hb)
  have HB := Lib.hid hb
  have HO1 := Lib.hid hO1
  have y0 := cell_heap (i := 0) hH1 rfl
  have y1 := cell_heap (i := 1) hH1 rfl
  have y3 := cell_heap (i := 0) hD1 rfl
  have y4 := cell_heap (i := 0) hO1 rfl
  clear hb hH1 hD1 hO1 x2
  by_cases h0 : C = 0
  · subst h0
    go_wp2
    go_ret
    exact ⟨p, len, c, rfl, by simp [dueL, HL.out], HO1.out, by simpa [dueL] using HW1.out, z1, fun k hk _ => HB.out.block k (by omega), HB.out.os, HB.out.tape, HB.out.output⟩
  · have g1 : (C != 0) = true := by simpa using h0
    have g2 : (C == 0) = false := by simpa using h0
    have hdl : dueL day s h kind C = [⟨day, s, h, kind, C⟩] := by unfold dueL; rw [if_neg h0]
    have HDL := Lib.hid hdl
    clear hdl
    go_wp2_with (at_builtin; go_must (refine wpList_append_own _ rfl _ _ 78 rfl base 82 i1 (.agg #[.int .i64 0, .int .i64 0, .int .i64 0, .int .i64 0, .int .i64 0]) 5 40 Try.underlying78 hi hz0 hz1 hz2 rfl (by decide) (.slice p len c) len (flatE encDue L) rfl (HW1.out.alloc _) ⟨_, 0, none⟩ 1 1 (encDue ⟨day, s, h, kind, C⟩) rfl rfl (newsDue _ _ (by simp) day s h kind C) (oneDue _) (by unfold maxLen; omega) (by omega) (by simp; omega) ?_); intro v5 w5 ho5 hg5 _; have hb5 : Below base w1 w5 := ((Below.refl _ w1).alloc (by omega) _).grown hg5 (by simp; omega) (fun q hq => (HW1.out.lt q hq).1); have z5 := hb5.size; obtain ⟨p5, c5, rfl⟩ := own_slice0 ho5; have hO5 := (hb5.block ob h3).trans HO1.out; have q0 := cell_heap (i := 0) hO5 rfl; have qf0 := frozen_of_row w5 _ 0 _ _ hO5; have HW5 := Lib.hid ho5; have HO5 := Lib.hid hO5; have HB5 := Lib.hid hb5; clear ho5 hO5 hb5 hg5)
    go_ret
    have e0 := heap_setCell_same w5 _ 0 _ _ (.slice p5 (len + 1) c5) HO5.out
    refine ⟨p5, len + 1, c5, rfl, by rw [HDL.out]; simp [HL.out], e0, ?_, by simp [World.setCell]; omega, fun k hk hne => (Below.heap_setCell _ _ _ _ (by simp only; exact hne)).trans ((HB5.out.block k hk).trans (HB.out.block k (by omega))), ?_, ?_, ?_⟩
    · rw [HDL.out, flatE_snoc]; exact own_kept HW5.out (grownBy_setCellZ ..) (by omega)
    · exact HB5.out.os.trans HB.out.os
    · exact HB5.out.tape.trans HB.out.tape
    · exact HB5.out.output.trans HB.out.output
set_option maxHeartbeats 4000000 in
set_option maxRecDepth 100000 in
theorem addY_any (hb ob db base : Nat) (kind day s h a : Int) (p : Option Addr) (len c : Nat) (L : List Due) (gx g : Nat) (C E : Int) (w : World) (hK : Calls Try.prog 131 #[.int .i64 a, .pointer (some ⟨gx, 0, none⟩), .pointer (some ⟨g, 0, none⟩)] w fun e w' => e = .returned (.tuple #[.int .i64 C, .int .i64 E]) ∧ Below w.heap.size w w') (hH : w.heap[hb]? = some (.cells #[.int .i64 s, .int .i64 h, .int .i64 a] 93 (0, 0))) (hD : w.heap[db]? = some (.cells #[.int .i64 day] 3 (0, 0))) (hO : w.heap[ob]? = some (.cells #[.slice p len c] 78 (0, 0))) (hown : w.ownsRow base 82 5 (.slice p len c) len (flatE encDue L)) (hlen : len = L.length) (hl : len ≤ 100000) (hbase : base ≤ w.heap.size) (h1 : hb < base) (h2 : db < base) (h3 : ob < base) :
    Calls Try.prog 158 #[.int .i64 kind, .func (.func 131) #[] #[.pointer (some ⟨gx, 0, none⟩), .pointer (some ⟨g, 0, none⟩)], .pointer (some ⟨hb, 0, none⟩), .pointer (some ⟨ob, 0, none⟩), .pointer (some ⟨db, 0, none⟩)] w (Added1 ob base (L ++ dueL day s h kind C) E w) := by
  obtain ⟨i1, hi, hz0, hz1, hz2⟩ := info_parts infoDue
  have x2 := cell_heap (i := 2) hH rfl
  have HK := Lib.hid hK
  clear hK
  have HH := Lib.hid hH
  have HD := Lib.hid hD
  have HO := Lib.hid hO
  have HW := Lib.hid hown
  have HL := Lib.hid hlen
  clear hlen
  go_enter Try.func158, Try.ntmps158
  go_wp2_with fail
  refine HK.out.mono ?_
  rintro e w1 ⟨rfl, hb⟩
  have z1 := hb.size
  have hH1 := (hb.block _ (by omega)).trans HH.out
  have hD1 := (hb.block _ (by omega)).trans HD.out
  have hO1 := (hb.block _ (by omega)).trans HO.out
  have HW1 := Lib.hid (ownsRow_belowZ HW.out hb)
  have HB := Lib.hid hb
  have HO1 := Lib.hid hO1
  have y0 := cell_heap (i := 0) hH1 rfl
  have y1 := cell_heap (i := 1) hH1 rfl
  have y3 := cell_heap (i := 0) hD1 rfl
  have y4 := cell_heap (i := 0) hO1 rfl
  clear hb hH1 hD1 hO1 x2
  by_cases h0 : C = 0
  · subst h0
    go_wp2
    go_ret
    exact ⟨p, len, c, rfl, by simp [dueL, HL.out], HO1.out, by simpa [dueL] using HW1.out, z1, fun k hk _ => HB.out.block k (by omega), HB.out.os, HB.out.tape, HB.out.output⟩
  · have g1 : (C != 0) = true := by simpa using h0
    have g2 : (C == 0) = false := by simpa using h0
    have hdl : dueL day s h kind C = [⟨day, s, h, kind, C⟩] := by unfold dueL; rw [if_neg h0]
    have HDL := Lib.hid hdl
    clear hdl
    go_wp2_with (at_builtin; go_must (refine wpList_append_own _ rfl _ _ 78 rfl base 82 i1 (.agg #[.int .i64 0, .int .i64 0, .int .i64 0, .int .i64 0, .int .i64 0]) 5 40 Try.underlying78 hi hz0 hz1 hz2 rfl (by decide) (.slice p len c) len (flatE encDue L) rfl (HW1.out.alloc _) ⟨_, 0, none⟩ 1 1 (encDue ⟨day, s, h, kind, C⟩) rfl rfl (newsDue _ _ (by simp) day s h kind C) (oneDue _) (by unfold maxLen; omega) (by omega) (by simp; omega) ?_); intro v5 w5 ho5 hg5 _; have hb5 : Below base w1 w5 := ((Below.refl _ w1).alloc (by omega) _).grown hg5 (by simp; omega) (fun q hq => (HW1.out.lt q hq).1); have z5 := hb5.size; obtain ⟨p5, c5, rfl⟩ := own_slice0 ho5; have hO5 := (hb5.block ob h3).trans HO1.out; have q0 := cell_heap (i := 0) hO5 rfl; have qf0 := frozen_of_row w5 _ 0 _ _ hO5; have HW5 := Lib.hid ho5; have HO5 := Lib.hid hO5; have HB5 := Lib.hid hb5; clear ho5 hO5 hb5 hg5)
    go_ret
    have e0 := heap_setCell_same w5 _ 0 _ _ (.slice p5 (len + 1) c5) HO5.out
    refine ⟨p5, len + 1, c5, rfl, by rw [HDL.out]; simp [HL.out], e0, ?_, by simp [World.setCell]; omega, fun k hk hne => (Below.heap_setCell _ _ _ _ (by simp only; exact hne)).trans ((HB5.out.block k hk).trans (HB.out.block k (by omega))), ?_, ?_, ?_⟩
    · rw [HDL.out, flatE_snoc]; exact own_kept HW5.out (grownBy_setCellZ ..) (by omega)
    · exact HB5.out.os.trans HB.out.os
    · exact HB5.out.tape.trans HB.out.tape
    · exact HB5.out.output.trans HB.out.output
end Go.Proofs.Ytmhglabcnimegaa
