/- coupon.Of, for closures that tell an amount each; coupon.plain. Printed by wip/gen/cpnc.py. -/
import Derived.Test.YtmhglabcnimegaaZCont
import Derived.Test.YtmhglabcnimegaaZDays
namespace Go.Proofs.Ytmhglabcnimegaa
open Go.RowKit
set_option linter.unusedVariables false
set_option linter.unusedSimpArgs false
/-- the closure f adds what is due of a kind, in the boxes that Of makes -/
def AddK (kind : Int) (f : Value) (C EC day s h a : Int) (w : World) : Prop :=
  ∀ (U : World) (p : Option Addr) (len c : Nat) (L : List Due), Below w.heap.size w U →
    U.heap[w.heap.size + 1]? = some (.cells #[.int .i64 s, .int .i64 h, .int .i64 a] 93 (0, 0)) → U.heap[w.heap.size + 1 + 1]? = some (.cells #[.int .i64 day] 3 (0, 0)) → U.heap[w.heap.size + 1 + 1 + 1]? = some (.cells #[.slice p len c] 78 (0, 0)) →
    U.ownsRow (w.heap.size + 1 + 1 + 1 + 1) 82 5 (.slice p len c) len (flatE encDue L) → len = L.length → len ≤ 1000 → w.heap.size + 1 + 1 + 1 + 1 ≤ U.heap.size →
    Calls Try.prog 158 #[.int .i64 kind, f, .pointer (some ⟨w.heap.size + 1, 0, none⟩), .pointer (some ⟨w.heap.size + 1 + 1 + 1, 0, none⟩), .pointer (some ⟨w.heap.size + 1 + 1, 0, none⟩)] U (Added1 (w.heap.size + 1 + 1 + 1) (w.heap.size + 1 + 1 + 1 + 1) (L ++ dueL day s h kind C) EC U)
def ofE (b1 b2 : Bool) (EC EP : Int) : Int := if b1 = true ∧ EC ≠ 0 then EC else if b2 = true ∧ EP ≠ 0 then EP else 0
def ofL (b1 b2 : Bool) (EC EP C Q day s h : Int) : List Due := if ofE b1 b2 EC EP = 0 then (if b1 then dueL day s h 1 C else []) ++ (if b2 then dueL day s h 2 Q else []) else []
/-- what Of leaves -/
def OfW (L : List Due) (E : Int) (w : World) (e : Ending) (w' : World) : Prop :=
  ∃ v, e = .returned (.tuple #[v, .int .i64 E]) ∧ w'.ownsRow w.heap.size 82 5 v L.length (flatE encDue L) ∧ Below w.heap.size w w'
theorem ofW_nil {L : List Due} {E k : Int} {w w' : World} (hL : L = []) (hE : E = k) (hb : Below w.heap.size w w') : OfW L E w (.returned (.tuple #[.slice none 0 0, .int .i64 k])) w' := by
  subst hL hE; exact ⟨_, rfl, World.ownsRow_nil _ _ _ _, hb⟩
theorem dueL_len (day s h kind c : Int) : (dueL day s h kind c).length ≤ 1 := by unfold dueL; split <;> simp
theorem SlAt.sl {P : Nat → Prop} {w : World} {v : Value} {L : List Int} (h : SlAt w P v L.length (L.map (Value.int .i64))) : Sl 1 encI P w v L := by
  obtain ⟨ao, c, rfl, h1, h2, h3⟩ := h
  refine ⟨_, _, _, rfl, rfl, h1, h2, ?_⟩
  rcases h3 with h3 | ⟨b, off, e, hp, hc⟩
  · left; simpa using h3
  · by_cases h0 : L.length = 0
    · exact .inl h0
    · refine .inr ⟨b, off, e, hp, World.block_lt_of_cell? w _ (hc 0 (by simp <;> omega)), fun j a hj i u hi => ?_⟩
      obtain ⟨hjl, rfl⟩ := List.getElem?_eq_some_iff.1 hj
      match i, hi with
      | 0, hi =>
        simp only [encI, List.getElem?_cons_zero, Option.some.injEq] at hi
        subst hi
        have := hc j (by simpa using hjl)
        simpa using this
theorem dayCells_map (is ev : Int) (n : Nat) : dayCells is ev n = ((List.range n).map (dayAt is ev)).map (Value.int .i64) := by simp [dayCells]
theorem daysMade_sl (id un is ma ra ev : Int) (ix : Bool) {w w' : World} {e : Ending} (h : DaysMade id un is ma ra ev w e w') : ∃ v, e = .returned v ∧ Sl 1 encI (w.heap.size ≤ ·) w' v (daysL id un is ma ra ev) ∧ Below w.heap.size w w' := by
  obtain ⟨v, rfl, hs, hb⟩ := h
  refine ⟨v, rfl, ?_, hb⟩
  apply SlAt.sl
  unfold daysL
  rw [dayCells_map] at hs
  simpa using hs
theorem dayN_le (id un is ma ra ev : Int) (ix : Bool) : dayN id un is ma ra ev ≤ 1000000 := by
  unfold dayN
  split
  · rename_i h
    rw [Bool.and_eq_true] at h
    have hk := secB_iff.1 h.1
    have h1 := hk.ma1
    have h2 := hk.ma0
    have h3 : ev ≠ 0 := by simpa using h.2
    have h4 := hk.ev
    have : (ma - is) / (30 * ev) ≤ ma - is := Int.ediv_le_self _ (by omega)
    omega
  · omega
set_option maxHeartbeats 8000000 in
set_option maxRecDepth 100000 in
theorem cof_any (id un is ma ra ev : Int) (ix : Bool) (s h a day C EC Qp EP : Int) (f1 f2 : Fn) (cs1 cb1 cs2 cb2 : Array Value) (w : World) (b1 b2 : Bool) (hb1 : decide (day ∈ daysL id un is ma ra ev) = b1) (hb2 : decide (day = ma) = b2) (hC : AddK 1 (.func f1 cs1 cb1) C EC day s h a w) (hP : AddK 2 (.func f2 cs2 cb2) Qp EP day s h a w) :
    Calls Try.prog 128 #[.agg #[.int .i64 id, .int .i64 un, .int .i64 is, .int .i64 ma, .int .i64 ra, .int .i64 ev, .bool ix], .agg #[.int .i64 s, .int .i64 h, .int .i64 a], .int .i64 day, .func f1 cs1 cb1, .func f2 cs2 cb2] w (OfW (ofL b1 b2 EC EP C Qp day s h) (ofE b1 b2 EC EP) w) := by
  have KC := Lib.hid hC
  have KP := Lib.hid hP
  have HB1 := Lib.hid hb1
  have HB2 := Lib.hid hb2
  have hdl : (daysL id un is ma ra ev).length ≤ 1000000 := by unfold daysL; rw [List.length_map, List.length_range]; exact dayN_le id un is ma ra ev ix
  clear hC hP hb1 hb2
  go_enter Try.func128, Try.ntmps128
  go_upto_region 3 with fail
  obtain ⟨W0, hW0⟩ : ∃ W, W = (((w.alloc (.cells #[.int .i64 id, .int .i64 un, .int .i64 is, .int .i64 ma, .int .i64 ra, .int .i64 ev, .bool ix] 41 (0, 0))).alloc (.cells #[.int .i64 s, .int .i64 h, .int .i64 a] 93 (0, 0))).alloc (.cells #[.int .i64 day] 3 (0, 0))).alloc (.cells #[.slice none 0 0] 78 (0, 0)) := ⟨_, rfl⟩
  rw [← hW0]
  have hBW : Below w.heap.size w W0 := by rw [hW0]; exact bal (bal (bal (bal brefl _) _) _) _
  have hzz : W0.heap.size = w.heap.size + 1 + 1 + 1 + 1 := by rw [hW0]; simp
  have hS0 : W0.heap[w.heap.size]? = some (.cells #[.int .i64 id, .int .i64 un, .int .i64 is, .int .i64 ma, .int .i64 ra, .int .i64 ev, .bool ix] 41 (0, 0)) := by rw [hW0]; exact (heap_alloc_old _ _ (by simp <;> omega)).trans ((heap_alloc_old _ _ (by simp <;> omega)).trans ((heap_alloc_old _ _ (by simp)).trans (heap_alloc_new w _)))
  have hH0 : W0.heap[w.heap.size + 1]? = some (.cells #[.int .i64 s, .int .i64 h, .int .i64 a] 93 (0, 0)) := by rw [hW0]; exact (heap_alloc_old _ _ (by simp <;> omega)).trans ((heap_alloc_old _ _ (by simp)).trans (heap_at (by simp)))
  have hD0 : W0.heap[w.heap.size + 1 + 1]? = some (.cells #[.int .i64 day] 3 (0, 0)) := by rw [hW0]; exact (heap_alloc_old _ _ (by simp)).trans (heap_at (by simp))
  have hO0 : W0.heap[w.heap.size + 1 + 1 + 1]? = some (.cells #[.slice none 0 0] 78 (0, 0)) := by rw [hW0]; exact heap_at (by simp)
  have HBW := Lib.hid hBW
  have HZ := Lib.hid hzz
  have HS0 := Lib.hid hS0
  have HH0 := Lib.hid hH0
  have HD0 := Lib.hid hD0
  have HO0 := Lib.hid hO0
  have k0 := cell_heap (i := 0) hS0 rfl
  have k1 := cell_heap (i := 1) hS0 rfl
  have k2 := cell_heap (i := 2) hS0 rfl
  have k3 := cell_heap (i := 3) hS0 rfl
  have k4 := cell_heap (i := 4) hS0 rfl
  have k5 := cell_heap (i := 5) hS0 rfl
  have k6 := cell_heap (i := 6) hS0 rfl
  have kd := cell_heap (i := 0) hD0 rfl
  clear hW0 hBW hzz hS0 hH0 hD0 hO0
  go_cut [20] (fun s20 wx => s20 = .bool b1 ∧ Below W0.heap.size W0 wx)
  case first =>
    go_region_with (first | (go_at_call 116; refine (days_any _ _ _ _ _ _ _ _).mono ?_; rintro e w1 hdm; obtain ⟨v, rfl, hsl, hbd⟩ := daysMade_sl id un is ma ra ev ix hdm; obtain ⟨ao, n, c, rfl, -, -, -⟩ := hsl.shape; have HSL := Lib.hid hsl; have HBD := Lib.hid hbd; have kd1 := keepB (w := W0) (by exact ⟨hbd.os, hbd.tape, hbd.output, hbd.size, hbd.block⟩) kd; clear hsl hbd hdm) | (go_at_call 159; refine (contains_any _ _ _ day _ HSL.out hdl).mono ?_; rw [HB1.out]; rintro e w2 ⟨rfl, rfl⟩))
    all_goals (go_wp2_with fail; go_meet)
    all_goals exact ⟨rfl, ⟨HBD.out.os, HBD.out.tape, HBD.out.output, HBD.out.size, HBD.out.block⟩⟩
  case rest =>
    obtain ⟨rfl, hbc⟩ := hcut
    have HBC := Lib.hid (HBW.out.trans (hbc.mono (by have := HBW.out.size; omega)))
    have hzc := hbc.size
    rw [HZ.out] at hzc
    have hzW0 := HZ.out
    have HSc := Lib.hid ((hbc.block w.heap.size (by omega)).trans HS0.out)
    have HHc := Lib.hid ((hbc.block (w.heap.size + 1) (by omega)).trans HH0.out)
    have HDc := Lib.hid ((hbc.block (w.heap.size + 1 + 1) (by omega)).trans HD0.out)
    have HOc := Lib.hid ((hbc.block (w.heap.size + 1 + 1 + 1) (by omega)).trans HO0.out)
    clear hbc hzW0 k0 k1 k2 k3 k4 k5 k6 kd HS0 HH0 HD0 HO0
    cases b1
    · obtain ⟨p, len, c, hplc⟩ : ∃ (p : Option Addr) (len c : Nat), p = none ∧ len = 0 ∧ c = 0 := ⟨_, _, _, rfl, rfl, rfl⟩
      obtain ⟨rfl, rfl, rfl⟩ := hplc
      obtain ⟨len, hlen⟩ : ∃ n : Nat, n = 0 := ⟨_, rfl⟩
      have HBL := HBC
      have HS := HSc
      have HH := HHc
      have HD := HDc
      have HO := HOc
      have HW := Lib.hid (World.ownsRow_nil wc (w.heap.size + 1 + 1 + 1 + 1) 82 5)
      have HLN := Lib.hid (show 0 = ([] : List Due).length from rfl)
      have hzW := hzc
      clear hlen
      have d0 := cell_heap (i := 0) HD.out rfl
      have m3 := cell_heap (i := 3) HS.out rfl
      have o0 := cell_heap (i := 0) HO.out rfl
      by_cases hdm : day = ma
      · have hb2 : b2 = true := by rw [← HB2.out]; simpa using hdm
        subst hb2
        have q1 : (day == ma) = true := by simpa using hdm
        have HK2 := Lib.hid (KP.out _ none 0 0 (([] : List Due)) HBL.out HH.out HD.out HO.out HW.out HLN.out (by omega) hzW)
        have HDM := Lib.hid hdm
        clear hdm
        go_wp2_with fail
        refine HK2.out.mono ?_
        rintro e w5 ⟨p5, len5, c5, rfl, hlen5, hO5, hown5, hz5, hk5, hos5, htp5, hou5⟩
        have HB5 := Lib.hid (show Below w.heap.size w w5 from ⟨hos5.trans HBL.out.os, htp5.trans HBL.out.tape, hou5.trans HBL.out.output, by have := HBL.out.size; omega, fun k hk => (hk5 k (by omega) (by omega)).trans (HBL.out.block k hk)⟩)
        have o5 := cell_heap (i := 0) hO5 rfl
        have HW5 := Lib.hid hown5
        have HL5 := Lib.hid hlen5
        clear hown5 hlen5 hk5 hos5 htp5 hou5 hO5 o0 m3 d0
        by_cases h2 : EP = 0
        · subst h2
          have e1 := Lib.hid (show ofE false true EC 0 = 0 by simp [ofE])
          have e2 := Lib.hid (show ofL false true EC 0 C Qp day s h = ([] : List Due) ++ dueL day s h 2 Qp by unfold ofL; rw [e1.out]; simp)
          go_wp2
          go_ret2
          rw [e1.out, e2.out]
          exact ⟨_, rfl, by rw [← HL5.out]; exact ownsRow_baseZ HW5.out (by omega), HB5.out⟩
        · have g2 : (EP == 0) = false := by simpa using h2
          have e1 := Lib.hid (show ofE false true EC EP = EP by simp [ofE, h2])
          have e2 := Lib.hid (show ofL false true EC EP C Qp day s h = [] by unfold ofL; rw [e1.out, if_neg h2])
          go_wp2
          go_ret2
          exact ofW_nil e2.out e1.out HB5.out
      · have hb2 : b2 = false := by rw [← HB2.out]; simpa using hdm
        subst hb2
        have q1 : (day == ma) = false := by simpa using hdm
        have e1 := Lib.hid (show ofE false false EC EP = 0 by simp [ofE])
        have e2 := Lib.hid (show ofL false false EC EP C Qp day s h = ([] : List Due) by unfold ofL; rw [e1.out]; simp)
        clear hdm
        go_wp2
        go_ret2
        rw [e1.out, e2.out]
        exact ⟨_, rfl, by rw [← HLN.out]; exact ownsRow_baseZ HW.out (by omega), HBL.out⟩
    · have HKc := Lib.hid (KC.out _ none 0 0 [] HBC.out HHc.out HDc.out HOc.out (World.ownsRow_nil wc (w.heap.size + 1 + 1 + 1 + 1) 82 5) rfl (by omega) hzc)
      go_wp2_with fail
      refine HKc.out.mono ?_
      rintro e w1 ⟨p, len, c, rfl, hlen1, hO1, hown1, hz1, hk1, hos1, htp1, hou1⟩
      have HBL := Lib.hid (show Below w.heap.size w w1 from ⟨hos1.trans HBC.out.os, htp1.trans HBC.out.tape, hou1.trans HBC.out.output, by have := HBC.out.size; omega, fun k hk => (hk1 k (by omega) (by omega)).trans (HBC.out.block k hk)⟩)
      have HS := Lib.hid ((hk1 w.heap.size (by omega) (by omega)).trans HSc.out)
      have HH := Lib.hid ((hk1 (w.heap.size + 1) (by omega) (by omega)).trans HHc.out)
      have HD := Lib.hid ((hk1 (w.heap.size + 1 + 1) (by omega) (by omega)).trans HDc.out)
      have HO := Lib.hid hO1
      have HW := Lib.hid hown1
      have hlen2 : len = (dueL day s h 1 C).length := hlen1
      have hlb := dueL_len day s h 1 C
      have hle : len ≤ 1 := by omega
      have HLN := Lib.hid hlen2
      have hzW : w.heap.size + 1 + 1 + 1 + 1 ≤ w1.heap.size := by omega
      clear hlen1 hlen2 hO1 hown1 hk1 hos1 htp1 hou1 hlb HSc HHc HDc HOc HKc
      by_cases h1 : EC = 0
      · subst h1
        have d0 := cell_heap (i := 0) HD.out rfl
        have m3 := cell_heap (i := 3) HS.out rfl
        have o0 := cell_heap (i := 0) HO.out rfl
        by_cases hdm : day = ma
        · have hb2 : b2 = true := by rw [← HB2.out]; simpa using hdm
          subst hb2
          have q1 : (day == ma) = true := by simpa using hdm
          have HK2 := Lib.hid (KP.out _ p len c (dueL day s h 1 C) HBL.out HH.out HD.out HO.out HW.out HLN.out (by omega) hzW)
          have HDM := Lib.hid hdm
          clear hdm
          go_wp2_with fail
          refine HK2.out.mono ?_
          rintro e w5 ⟨p5, len5, c5, rfl, hlen5, hO5, hown5, hz5, hk5, hos5, htp5, hou5⟩
          have HB5 := Lib.hid (show Below w.heap.size w w5 from ⟨hos5.trans HBL.out.os, htp5.trans HBL.out.tape, hou5.trans HBL.out.output, by have := HBL.out.size; omega, fun k hk => (hk5 k (by omega) (by omega)).trans (HBL.out.block k hk)⟩)
          have o5 := cell_heap (i := 0) hO5 rfl
          have HW5 := Lib.hid hown5
          have HL5 := Lib.hid hlen5
          clear hown5 hlen5 hk5 hos5 htp5 hou5 hO5 o0 m3 d0
          by_cases h2 : EP = 0
          · subst h2
            have e1 := Lib.hid (show ofE true true 0 0 = 0 by simp [ofE])
            have e2 := Lib.hid (show ofL true true 0 0 C Qp day s h = dueL day s h 1 C ++ dueL day s h 2 Qp by unfold ofL; rw [e1.out]; simp)
            go_wp2
            go_ret2
            rw [e1.out, e2.out]
            exact ⟨_, rfl, by rw [← HL5.out]; exact ownsRow_baseZ HW5.out (by omega), HB5.out⟩
          · have g2 : (EP == 0) = false := by simpa using h2
            have e1 := Lib.hid (show ofE true true 0 EP = EP by simp [ofE, h2])
            have e2 := Lib.hid (show ofL true true 0 EP C Qp day s h = [] by unfold ofL; rw [e1.out, if_neg h2])
            go_wp2
            go_ret2
            exact ofW_nil e2.out e1.out HB5.out
        · have hb2 : b2 = false := by rw [← HB2.out]; simpa using hdm
          subst hb2
          have q1 : (day == ma) = false := by simpa using hdm
          have e1 := Lib.hid (show ofE true false 0 EP = 0 by simp [ofE])
          have e2 := Lib.hid (show ofL true false 0 EP C Qp day s h = dueL day s h 1 C by unfold ofL; rw [e1.out]; simp)
          clear hdm
          go_wp2
          go_ret2
          rw [e1.out, e2.out]
          exact ⟨_, rfl, by rw [← HLN.out]; exact ownsRow_baseZ HW.out (by omega), HBL.out⟩
      · have g1 : (EC == 0) = false := by simpa using h1
        have e1 := Lib.hid (show ofE true b2 EC EP = EC by unfold ofE; rw [if_pos ⟨rfl, h1⟩])
        have e2 := Lib.hid (show ofL true b2 EC EP C Qp day s h = [] by unfold ofL; rw [e1.out, if_neg h1])
        go_wp2
        go_ret2
        exact ofW_nil e2.out e1.out HBL.out
end Go.Proofs.Ytmhglabcnimegaa
