/- coupon.Of, for closures that tell an amount each; coupon.plain. Printed by wip/gen/cpnc.py. coupon.plain, coupon.Pending. coupon.Pending. -/
import Derived.Test.YthhoaefadfeknaaGreatZCont
import Derived.Test.YthhoaefadfeknaaGreatZDays
import Derived.Test.YthhoaefadfeknaaGreatZRefN
import Derived.Laws.AppendOwnNone
namespace Go.Proofs.YthhoaefadfeknaaGreat
open Go.RowKit
set_option linter.unusedVariables false
set_option linter.unusedSimpArgs false
/-- the closure f adds what is due of a kind, in the boxes that Of makes -/
def AddK (kind : Int) (f : Value) (C EC day s h a : Int) (w : World) : Prop :=
  ∀ (U : World) (p : Option Addr) (len c : Nat) (L : List Due), Below w.heap.size w U →
    U.heap[w.heap.size + 1]? = some (.cells #[.int .i64 s, .int .i64 h, .int .i64 a] 127 (0, 0)) → U.heap[w.heap.size + 1 + 1]? = some (.cells #[.int .i64 day] 3 (0, 0)) → U.heap[w.heap.size + 1 + 1 + 1]? = some (.cells #[.slice p len c] 62 (0, 0)) →
    U.ownsRow (w.heap.size + 1 + 1 + 1 + 1) 106 5 (.slice p len c) len (flatE encDue L) → len = L.length → len ≤ 1000 → w.heap.size + 1 + 1 + 1 + 1 ≤ U.heap.size →
    Calls Tryz.prog 164 #[.int .i64 kind, f, .pointer (some ⟨w.heap.size + 1, 0, none⟩), .pointer (some ⟨w.heap.size + 1 + 1 + 1, 0, none⟩), .pointer (some ⟨w.heap.size + 1 + 1, 0, none⟩)] U (Added1 (w.heap.size + 1 + 1 + 1) (w.heap.size + 1 + 1 + 1 + 1) (L ++ dueL day s h kind C) EC U)
def ofE (b1 b2 : Bool) (EC EP : Int) : Int := if b1 = true ∧ EC ≠ 0 then EC else if b2 = true ∧ EP ≠ 0 then EP else 0
def ofL (b1 b2 : Bool) (EC EP C Q day s h : Int) : List Due := if ofE b1 b2 EC EP = 0 then (if b1 then dueL day s h 1 C else []) ++ (if b2 then dueL day s h 2 Q else []) else []
/-- what Of leaves -/
def OfW (L : List Due) (E : Int) (w : World) (e : Ending) (w' : World) : Prop :=
  ∃ v, e = .returned (.tuple #[v, .int .i64 E]) ∧ w'.ownsRow w.heap.size 106 5 v L.length (flatE encDue L) ∧ Below w.heap.size w w'
theorem ofW_nil {L : List Due} {E k : Int} {w w' : World} (hL : L = []) (hE : E = k) (hb : Below w.heap.size w w') : OfW L E w (.returned (.tuple #[.slice none 0 0, .int .i64 k])) w' := by
  subst hL hE; exact ⟨_, rfl, World.ownsRow_nil _ _ _ _, hb⟩
theorem dueL_len (day s h kind c : Int) : (dueL day s h kind c).length ≤ 1 := by unfold dueL; split <;> simp
theorem SlAt.sl {P : Nat → Prop} {w : World} {v : Value} {L : List Int} (h : SlAt w P v L.length (L.map (Value.int .i64))) : Sl 1 encI P w v L := by
  obtain ⟨ao, c, rfl, h1, h2, h3⟩ := h
  refine ⟨_, _, _, rfl, rfl, h1, h2, ?_⟩
  rcases h3 with h3 | ⟨b, off, e, hp, hc⟩
  · left; simpa using h3
  · by_cases h0 : L.length = 0
    · exact .inl h0
    · refine .inr ⟨b, off, e, hp, World.block_lt_of_cell? w _ (hc 0 (by simp <;> omega)), fun j a hj i u hi => ?_⟩
      obtain ⟨hjl, rfl⟩ := List.getElem?_eq_some_iff.1 hj
      match i, hi with
      | 0, hi =>
        simp only [encI, List.getElem?_cons_zero, Option.some.injEq] at hi
        subst hi
        have := hc j (by simpa using hjl)
        simpa using this
theorem dayCells_map (is ev : Int) (n : Nat) : dayCells is ev n = ((List.range n).map (dayAt is ev)).map (Value.int .i64) := by simp [dayCells]
theorem daysMade_sl (id un is ma ra ev : Int) (ix : Bool) {w w' : World} {e : Ending} (h : DaysMade id un is ma ra ev w e w') : ∃ v, e = .returned v ∧ Sl 1 encI (w.heap.size ≤ ·) w' v (daysL id un is ma ra ev) ∧ Below w.heap.size w w' := by
  obtain ⟨v, rfl, hs, hb⟩ := h
  refine ⟨v, rfl, ?_, hb⟩
  apply SlAt.sl
  unfold daysL
  rw [dayCells_map] at hs
  simpa using hs
theorem dayN_le (id un is ma ra ev : Int) (ix : Bool) : dayN id un is ma ra ev ≤ 1000000 := by
  unfold dayN
  split
  · rename_i h
    rw [Bool.and_eq_true] at h
    have hk := secB_iff.1 h.1
    have h1 := hk.ma1
    have h2 := hk.ma0
    have h3 : ev ≠ 0 := by simpa using h.2
    have h4 := hk.ev
    have : (ma - is) / (30 * ev) ≤ ma - is := Int.ediv_le_self _ (by omega)
    omega
  · omega
set_option maxHeartbeats 8000000 in
set_option maxRecDepth 100000 in
theorem cof_any (id un is ma ra ev : Int) (ix : Bool) (s h a day C EC Qp EP : Int) (f1 f2 : Fn) (cs1 cb1 cs2 cb2 : Array Value) (w : World) (b1 b2 : Bool) (hb1 : decide (day ∈ daysL id un is ma ra ev) = b1) (hb2 : decide (day = ma) = b2) (hC : AddK 1 (.func f1 cs1 cb1) C EC day s h a w) (hP : AddK 2 (.func f2 cs2 cb2) Qp EP day s h a w) :
    Calls Tryz.prog 96 #[.agg #[.int .i64 id, .int .i64 un, .int .i64 is, .int .i64 ma, .int .i64 ra, .int .i64 ev, .bool ix], .agg #[.int .i64 s, .int .i64 h, .int .i64 a], .int .i64 day, .func f1 cs1 cb1, .func f2 cs2 cb2] w (OfW (ofL b1 b2 EC EP C Qp day s h) (ofE b1 b2 EC EP) w) := by
  have KC := Lib.hid hC
  have KP := Lib.hid hP
  have HB1 := Lib.hid hb1
  have HB2 := Lib.hid hb2
  have hdl : (daysL id un is ma ra ev).length ≤ 1000000 := by unfold daysL; rw [List.length_map, List.length_range]; exact dayN_le id un is ma ra ev ix
  clear hC hP hb1 hb2
  go_enter Tryz.func96, Tryz.ntmps96
  go_upto_region 3 with fail
  obtain ⟨W0, hW0⟩ : ∃ W, W = (((w.alloc (.cells #[.int .i64 id, .int .i64 un, .int .i64 is, .int .i64 ma, .int .i64 ra, .int .i64 ev, .bool ix] 26 (0, 0))).alloc (.cells #[.int .i64 s, .int .i64 h, .int .i64 a] 127 (0, 0))).alloc (.cells #[.int .i64 day] 3 (0, 0))).alloc (.cells #[.slice none 0 0] 62 (0, 0)) := ⟨_, rfl⟩
  rw [← hW0]
  have hBW : Below w.heap.size w W0 := by rw [hW0]; exact bal (bal (bal (bal brefl _) _) _) _
  have hzz : W0.heap.size = w.heap.size + 1 + 1 + 1 + 1 := by rw [hW0]; simp
  have hS0 : W0.heap[w.heap.size]? = some (.cells #[.int .i64 id, .int .i64 un, .int .i64 is, .int .i64 ma, .int .i64 ra, .int .i64 ev, .bool ix] 26 (0, 0)) := by rw [hW0]; exact (heap_alloc_old _ _ (by simp <;> omega)).trans ((heap_alloc_old _ _ (by simp <;> omega)).trans ((heap_alloc_old _ _ (by simp)).trans (heap_alloc_new w _)))
  have hH0 : W0.heap[w.heap.size + 1]? = some (.cells #[.int .i64 s, .int .i64 h, .int .i64 a] 127 (0, 0)) := by rw [hW0]; exact (heap_alloc_old _ _ (by simp <;> omega)).trans ((heap_alloc_old _ _ (by simp)).trans (heap_at (by simp)))
  have hD0 : W0.heap[w.heap.size + 1 + 1]? = some (.cells #[.int .i64 day] 3 (0, 0)) := by rw [hW0]; exact (heap_alloc_old _ _ (by simp)).trans (heap_at (by simp))
  have hO0 : W0.heap[w.heap.size + 1 + 1 + 1]? = some (.cells #[.slice none 0 0] 62 (0, 0)) := by rw [hW0]; exact heap_at (by simp)
  have HBW := Lib.hid hBW
  have HZ := Lib.hid hzz
  have HS0 := Lib.hid hS0
  have HH0 := Lib.hid hH0
  have HD0 := Lib.hid hD0
  have HO0 := Lib.hid hO0
  have k0 := cell_heap (i := 0) hS0 rfl
  have k1 := cell_heap (i := 1) hS0 rfl
  have k2 := cell_heap (i := 2) hS0 rfl
  have k3 := cell_heap (i := 3) hS0 rfl
  have k4 := cell_heap (i := 4) hS0 rfl
  have k5 := cell_heap (i := 5) hS0 rfl
  have k6 := cell_heap (i := 6) hS0 rfl
  have kd := cell_heap (i := 0) hD0 rfl
  clear hW0 hBW hzz hS0 hH0 hD0 hO0
  go_cut [20] (fun s20 wx => s20 = .bool b1 ∧ Below W0.heap.size W0 wx)
  case first =>
    go_region_with (first | (go_at_call 59; refine (days_any _ _ _ _ _ _ _ _).mono ?_; rintro e w1 hdm; obtain ⟨v, rfl, hsl, hbd⟩ := daysMade_sl id un is ma ra ev ix hdm; obtain ⟨ao, n, c, rfl, -, -, -⟩ := hsl.shape; have HSL := Lib.hid hsl; have HBD := Lib.hid hbd; have kd1 := keepB (w := W0) (by exact ⟨hbd.os, hbd.tape, hbd.output, hbd.size, hbd.block⟩) kd; clear hsl hbd hdm) | (go_at_call 165; refine (contains_any _ _ _ day _ HSL.out hdl).mono ?_; rw [HB1.out]; rintro e w2 ⟨rfl, rfl⟩))
    all_goals (go_wp2_with fail; go_meet)
    all_goals exact ⟨rfl, ⟨HBD.out.os, HBD.out.tape, HBD.out.output, HBD.out.size, HBD.out.block⟩⟩
  case rest =>
    obtain ⟨rfl, hbc⟩ := hcut
    have HBC := Lib.hid (HBW.out.trans (hbc.mono (by have := HBW.out.size; omega)))
    have hzc := hbc.size
    rw [HZ.out] at hzc
    have hzW0 := HZ.out
    have HSc := Lib.hid ((hbc.block w.heap.size (by omega)).trans HS0.out)
    have HHc := Lib.hid ((hbc.block (w.heap.size + 1) (by omega)).trans HH0.out)
    have HDc := Lib.hid ((hbc.block (w.heap.size + 1 + 1) (by omega)).trans HD0.out)
    have HOc := Lib.hid ((hbc.block (w.heap.size + 1 + 1 + 1) (by omega)).trans HO0.out)
    clear hbc hzW0 k0 k1 k2 k3 k4 k5 k6 kd HS0 HH0 HD0 HO0
    cases b1
    · obtain ⟨p, len, c, hplc⟩ : ∃ (p : Option Addr) (len c : Nat), p = none ∧ len = 0 ∧ c = 0 := ⟨_, _, _, rfl, rfl, rfl⟩
      obtain ⟨rfl, rfl, rfl⟩ := hplc
      obtain ⟨len, hlen⟩ : ∃ n : Nat, n = 0 := ⟨_, rfl⟩
      have HBL := HBC
      have HS := HSc
      have HH := HHc
      have HD := HDc
      have HO := HOc
      have HW := Lib.hid (World.ownsRow_nil wc (w.heap.size + 1 + 1 + 1 + 1) 106 5)
      have HLN := Lib.hid (show 0 = ([] : List Due).length from rfl)
      have hzW := hzc
      clear hlen
      have d0 := cell_heap (i := 0) HD.out rfl
      have m3 := cell_heap (i := 3) HS.out rfl
      have o0 := cell_heap (i := 0) HO.out rfl
      by_cases hdm : day = ma
      · have hb2 : b2 = true := by rw [← HB2.out]; simpa using hdm
        subst hb2
        have q1 : (day == ma) = true := by simpa using hdm
        have HK2 := Lib.hid (KP.out _ none 0 0 (([] : List Due)) HBL.out HH.out HD.out HO.out HW.out HLN.out (by omega) hzW)
        have HDM := Lib.hid hdm
        clear hdm
        go_wp2_with fail
        refine HK2.out.mono ?_
        rintro e w5 ⟨p5, len5, c5, rfl, hlen5, hO5, hown5, hz5, hk5, hos5, htp5, hou5⟩
        have HB5 := Lib.hid (show Below w.heap.size w w5 from ⟨hos5.trans HBL.out.os, htp5.trans HBL.out.tape, hou5.trans HBL.out.output, by have := HBL.out.size; omega, fun k hk => (hk5 k (by omega) (by omega)).trans (HBL.out.block k hk)⟩)
        have o5 := cell_heap (i := 0) hO5 rfl
        have HW5 := Lib.hid hown5
        have HL5 := Lib.hid hlen5
        clear hown5 hlen5 hk5 hos5 htp5 hou5 hO5 o0 m3 d0
        by_cases h2 : EP = 0
        · subst h2
          have e1 := Lib.hid (show ofE false true EC 0 = 0 by simp [ofE])
          have e2 := Lib.hid (show ofL false true EC 0 C Qp day s h = ([] : List Due) ++ dueL day s h 2 Qp by unfold ofL; rw [e1.out]; simp)
          go_wp2
          go_ret2
          rw [e1.out, e2.out]
          exact ⟨_, rfl, by rw [← HL5.out]; exact ownsRow_baseZ HW5.out (by omega), HB5.out⟩
        · have g2 : (EP == 0) = false := by simpa using h2
          have e1 := Lib.hid (show ofE false true EC EP = EP by simp [ofE, h2])
          have e2 := Lib.hid (show ofL false true EC EP C Qp day s h = [] by unfold ofL; rw [e1.out, if_neg h2])
          go_wp2
          go_ret2
          exact ofW_nil e2.out e1.out HB5.out
      · have hb2 : b2 = false := by rw [← HB2.out]; simpa using hdm
        subst hb2
        have q1 : (day == ma) = false := by simpa using hdm
        have e1 := Lib.hid (show ofE false false EC EP = 0 by simp [ofE])
        have e2 := Lib.hid (show ofL false false EC EP C Qp day s h = ([] : List Due) by unfold ofL; rw [e1.out]; simp)
        clear hdm
        go_wp2
        go_ret2
        rw [e1.out, e2.out]
        exact ⟨_, rfl, by rw [← HLN.out]; exact ownsRow_baseZ HW.out (by omega), HBL.out⟩
    · have HKc := Lib.hid (KC.out _ none 0 0 [] HBC.out HHc.out HDc.out HOc.out (World.ownsRow_nil wc (w.heap.size + 1 + 1 + 1 + 1) 106 5) rfl (by omega) hzc)
      go_wp2_with fail
      refine HKc.out.mono ?_
      rintro e w1 ⟨p, len, c, rfl, hlen1, hO1, hown1, hz1, hk1, hos1, htp1, hou1⟩
      have HBL := Lib.hid (show Below w.heap.size w w1 from ⟨hos1.trans HBC.out.os, htp1.trans HBC.out.tape, hou1.trans HBC.out.output, by have := HBC.out.size; omega, fun k hk => (hk1 k (by omega) (by omega)).trans (HBC.out.block k hk)⟩)
      have HS := Lib.hid ((hk1 w.heap.size (by omega) (by omega)).trans HSc.out)
      have HH := Lib.hid ((hk1 (w.heap.size + 1) (by omega) (by omega)).trans HHc.out)
      have HD := Lib.hid ((hk1 (w.heap.size + 1 + 1) (by omega) (by omega)).trans HDc.out)
      have HO := Lib.hid hO1
      have HW := Lib.hid hown1
      have hlen2 : len = (dueL day s h 1 C).length := hlen1
      have hlb := dueL_len day s h 1 C
      have hle : len ≤ 1 := by omega
      have HLN := Lib.hid hlen2
      have hzW : w.heap.size + 1 + 1 + 1 + 1 ≤ w1.heap.size := by omega
      clear hlen1 hlen2 hO1 hown1 hk1 hos1 htp1 hou1 hlb HSc HHc HDc HOc HKc
      by_cases h1 : EC = 0
      · subst h1
        have d0 := cell_heap (i := 0) HD.out rfl
        have m3 := cell_heap (i := 3) HS.out rfl
        have o0 := cell_heap (i := 0) HO.out rfl
        by_cases hdm : day = ma
        · have hb2 : b2 = true := by rw [← HB2.out]; simpa using hdm
          subst hb2
          have q1 : (day == ma) = true := by simpa using hdm
          have HK2 := Lib.hid (KP.out _ p len c (dueL day s h 1 C) HBL.out HH.out HD.out HO.out HW.out HLN.out (by omega) hzW)
          have HDM := Lib.hid hdm
          clear hdm
          go_wp2_with fail
          refine HK2.out.mono ?_
          rintro e w5 ⟨p5, len5, c5, rfl, hlen5, hO5, hown5, hz5, hk5, hos5, htp5, hou5⟩
          have HB5 := Lib.hid (show Below w.heap.size w w5 from ⟨hos5.trans HBL.out.os, htp5.trans HBL.out.tape, hou5.trans HBL.out.output, by have := HBL.out.size; omega, fun k hk => (hk5 k (by omega) (by omega)).trans (HBL.out.block k hk)⟩)
          have o5 := cell_heap (i := 0) hO5 rfl
          have HW5 := Lib.hid hown5
          have HL5 := Lib.hid hlen5
          clear hown5 hlen5 hk5 hos5 htp5 hou5 hO5 o0 m3 d0
          by_cases h2 : EP = 0
          · subst h2
            have e1 := Lib.hid (show ofE true true 0 0 = 0 by simp [ofE])
            have e2 := Lib.hid (show ofL true true 0 0 C Qp day s h = dueL day s h 1 C ++ dueL day s h 2 Qp by unfold ofL; rw [e1.out]; simp)
            go_wp2
            go_ret2
            rw [e1.out, e2.out]
            exact ⟨_, rfl, by rw [← HL5.out]; exact ownsRow_baseZ HW5.out (by omega), HB5.out⟩
          · have g2 : (EP == 0) = false := by simpa using h2
            have e1 := Lib.hid (show ofE true true 0 EP = EP by simp [ofE, h2])
            have e2 := Lib.hid (show ofL true true 0 EP C Qp day s h = [] by unfold ofL; rw [e1.out, if_neg h2])
            go_wp2
            go_ret2
            exact ofW_nil e2.out e1.out HB5.out
        · have hb2 : b2 = false := by rw [← HB2.out]; simpa using hdm
          subst hb2
          have q1 : (day == ma) = false := by simpa using hdm
          have e1 := Lib.hid (show ofE true false 0 EP = 0 by simp [ofE])
          have e2 := Lib.hid (show ofL true false 0 EP C Qp day s h = dueL day s h 1 C by unfold ofL; rw [e1.out]; simp)
          clear hdm
          go_wp2
          go_ret2
          rw [e1.out, e2.out]
          exact ⟨_, rfl, by rw [← HLN.out]; exact ownsRow_baseZ HW.out (by omega), HBL.out⟩
      · have g1 : (EC == 0) = false := by simpa using h1
        have e1 := Lib.hid (show ofE true b2 EC EP = EC by unfold ofE; rw [if_pos ⟨rfl, h1⟩])
        have e2 := Lib.hid (show ofL true b2 EC EP C Qp day s h = [] by unfold ofL; rw [e1.out, if_neg h1])
        go_wp2
        go_ret2
        exact ofW_nil e2.out e1.out HBL.out
end Go.Proofs.YthhoaefadfeknaaGreat
namespace Go.Proofs.YthhoaefadfeknaaGreat
open Go.RowKit
set_option linter.unusedVariables false
set_option linter.unusedSimpArgs false
/-- what is due on a day for a holding -/
def plL (x : Sec) (day : Int) (y : Hold) : List Due := ofL (decide (day ∈ daysL x.id x.un x.is x.ma x.ra x.ev)) (decide (day = x.ma)) (ccE x.id x.un x.is x.ma x.ra x.ev y.a) 0 (cpN x.id x.un x.is x.ma x.ra x.ev y.a) y.a day y.s y.h
theorem plL_len (x : Sec) (day : Int) (y : Hold) : (plL x day y).length ≤ 2 := by
  unfold plL ofL
  split
  · rw [List.length_append]
    have h1 := dueL_len day y.s y.h 1 (cpN x.id x.un x.is x.ma x.ra x.ev y.a)
    have h2 := dueL_len day y.s y.h 2 y.a
    split <;> split <;> simp <;> omega
  · simp
theorem own_slice0' {w : World} {base : Nat} {e : TypeId} {z : Nat} {v : Value} {n : Nat} {xs : List Value} (h : w.ownsRow base e z v n xs) : ∃ ao c, v = .slice ao n c := by
  rcases h.2 with ⟨rfl, rfl⟩ | ⟨g, cap, cur, rfl, _⟩
  · exact ⟨_, _, rfl⟩
  · exact ⟨_, _, rfl⟩
/-- what plain leaves -/
def PlW (L : List Due) (w : World) (e : Ending) (w' : World) : Prop := ∃ v, e = .returned v ∧ w'.ownsRow w.heap.size 106 5 v L.length (flatE encDue L) ∧ Below w.heap.size w w'
set_option maxHeartbeats 4000000 in
theorem plain_any (id un is ma ra ev : Int) (ix : Bool) (s h a day : Int) (w : World) :
    Calls Tryz.prog 129 #[.agg #[.int .i64 id, .int .i64 un, .int .i64 is, .int .i64 ma, .int .i64 ra, .int .i64 ev, .bool ix], .agg #[.int .i64 s, .int .i64 h, .int .i64 a], .int .i64 day] w (PlW (plL ⟨id, un, is, ma, ra, ev, ix⟩ day ⟨s, h, a⟩) w) := by
  obtain ⟨W0, hW0⟩ : ∃ W, W = (w.alloc (.cells #[.int .i64 id, .int .i64 un, .int .i64 is, .int .i64 ma, .int .i64 ra, .int .i64 ev, .bool ix] 26 (0, 0))).alloc (.cells #[.int .i64 s, .int .i64 h, .int .i64 a] 127 (0, 0)) := ⟨_, rfl⟩
  have hz : W0.heap.size = w.heap.size + 1 + 1 := by rw [hW0]; simp
  have hS0 : W0.heap[w.heap.size]? = some (.cells #[.int .i64 id, .int .i64 un, .int .i64 is, .int .i64 ma, .int .i64 ra, .int .i64 ev, .bool ix] 26 (0, 0)) := by rw [hW0]; exact (heap_alloc_old _ _ (by simp)).trans (heap_alloc_new w _)
  have hB0 : Below w.heap.size w W0 := by rw [hW0]; exact bal (bal brefl _) _
  have HK := Lib.hid (cof_any id un is ma ra ev ix s h a day (cpN id un is ma ra ev a) (ccE id un is ma ra ev a) a 0 (.func 185) (.func 186) #[] #[.pointer (some ⟨w.heap.size, 0, none⟩)] #[] #[] W0 _ _ rfl rfl
    (fun U p len c L hU hH hD hO hown hlen hl hzU => by
      have hSU := (hU.block w.heap.size (by omega)).trans hS0
      exact addC_any (W0.heap.size + 1) (W0.heap.size + 1 + 1 + 1) (W0.heap.size + 1 + 1) (W0.heap.size + 1 + 1 + 1 + 1) 1 day s h a p len c L w.heap.size id un is ma ra ev ix U (cell_heap (i := 0) hSU rfl) (cell_heap (i := 1) hSU rfl) (cell_heap (i := 2) hSU rfl) (cell_heap (i := 3) hSU rfl) (cell_heap (i := 4) hSU rfl) (cell_heap (i := 5) hSU rfl) (cell_heap (i := 6) hSU rfl) hH hD hO hown hlen (by omega) hzU (by omega) (by omega) (by omega))
    (fun U p len c L hU hH hD hO hown hlen hl hzU => addP_any (W0.heap.size + 1) (W0.heap.size + 1 + 1 + 1) (W0.heap.size + 1 + 1) (W0.heap.size + 1 + 1 + 1 + 1) 2 day s h a p len c L U hH hD hO hown hlen (by omega) hzU (by omega) (by omega) (by omega)))
  obtain ⟨M, hM⟩ : ∃ M, plL ⟨id, un, is, ma, ra, ev, ix⟩ day ⟨s, h, a⟩ = M := ⟨_, rfl⟩
  rw [hM]
  have hM2 := hM
  unfold plL at hM2
  simp only at hM2
  rw [hM2] at HK
  have HB0 := Lib.hid hB0
  have HZ := Lib.hid hz
  rw [hW0] at HK
  have HW0 := Lib.hid hW0
  clear hM hM2 hW0 hS0 hB0 hz
  go_enter Tryz.func129, Tryz.ntmps129
  go_wp2_with fail
  refine HK.out.mono ?_
  rintro e w1 ⟨v, rfl, hown, hb1⟩
  rw [← HW0.out] at hown hb1
  have hv : (∃ ao n c, v = .slice ao n c) := by obtain ⟨ao, c, rfl⟩ := own_slice0' hown; exact ⟨_, _, _, rfl⟩
  obtain ⟨ao, n, c, rfl⟩ := hv
  have HO := Lib.hid (ownsRow_baseZ hown (b' := w.heap.size) (by rw [HZ.out]; omega))
  have HB1 := Lib.hid (HB0.out.trans (hb1.mono (by rw [HZ.out]; omega)))
  clear hown hb1
  go_wp2
  go_ret
  exact ⟨_, rfl, HO.out, HB1.out⟩
def pdE (R : Reg) (day : Int) : Int := if chkE R = 0 then (if inB day 0 35990 = true then 0 else 2) else chkE R
def pdF (R : Reg) (day : Int) (y : Hold) : List Due := match findS R.secs y.s with | some x => plL x day y | none => []
def pdL (R : Reg) (day : Int) : List Due := if pdE R day = 0 then (rgAt R day).flatMap (pdF R day) else []
theorem pdF_len (R : Reg) (day : Int) (y : Hold) : (pdF R day y).length ≤ 2 := by
  unfold pdF
  split
  · exact plL_len ..
  · simp
theorem flat_len {α β : Type} (f : α → List β) (hf : ∀ x, (f x).length ≤ 2) : ∀ L : List α, (L.flatMap f).length ≤ 2 * L.length
  | [] => by simp
  | x :: L => by
    have h1 := flat_len f hf L
    have h2 := hf x
    simp only [List.flatMap_cons, List.length_append, List.length_cons]
    omega
end Go.Proofs.YthhoaefadfeknaaGreat
namespace Go.Proofs.YthhoaefadfeknaaGreat
open Go.RowKit
set_option linter.unusedVariables false
set_option linter.unusedSimpArgs false
/-- what Pending leaves -/
def PdW (L : List Due) (E : Int) (w : World) (e : Ending) (w' : World) : Prop := ∃ v, e = .returned (.tuple #[v, .int .i64 E]) ∧ w'.ownsRow w.heap.size 106 5 v L.length (flatE encDue L) ∧ Below w.heap.size w w'
theorem pdW_nil {L : List Due} {E k : Int} {w w' : World} (hL : L = []) (hE : E = k) (hb : Below w.heap.size w w') : PdW L E w (.returned (.tuple #[.slice none 0 0, .int .i64 k])) w' := by
  subst hL hE; exact ⟨_, rfl, World.ownsRow_nil _ _ _ _, hb⟩
theorem at_len {R : Reg} (h : RgOk R) (day : Int) : (rgAt R day).length ≤ 800 := (h.cut day).hl
theorem at_find {R : Reg} (h : RgOk R) (day : Int) : ∀ x ∈ rgAt R day, ∃ s, findS R.secs x.s = some s := fun x hx => by
  have hc := h.cut day
  have := repl_secs R.secs (msTo day R.ms) 0 0 [] hc.ok (by simp) x (by have := hc.hs; simp only at this; rw [this]; exact hx)
  exact Option.isSome_iff_exists.1 this
theorem flatE_cells2 {w : World} {b : Nat} {L : List Due} {T : TypeId} {base n cap : Nat} (h : w.ownsRow base T 5 (.slice (some ⟨b, 0, none⟩) n cap) n (flatE encDue L)) : ∀ j u, (flatE encDue L)[j]? = some u → w.cell? ((⟨b, 0, none⟩ : Addr).add j) = some u := fun j u hj => World.ownsRow.cells h (g := b) rfl j u hj
set_option maxHeartbeats 8000000 in
set_option maxRecDepth 100000 in
theorem pending_any (P : Nat → Prop) (vs vh vm : Value) (R : Reg) (day : Int) (w : World) (hr : RgIn P w vs vh vm R) (hS : R.secs.length ≤ 1000000) (hH : R.hs.length ≤ 1000000) (hM : R.ms.length ≤ 1000000) :
    Calls Tryz.prog 66 #[.agg #[vs, vh, vm], .int .i64 day] w (PdW (pdL R day) (pdE R day) w) := by
  obtain ⟨a0, n0, c0, rfl, -, -, -⟩ := hr.S.shape
  obtain ⟨a1, n1, c1, rfl, -, -, -⟩ := hr.H.shape
  obtain ⟨a2, n2, c2, rfl, -, -, -⟩ := hr.M.shape
  obtain ⟨E0, hE0⟩ : ∃ E, chkE R = E := ⟨_, rfl⟩
  have KA := Lib.hid (fun U (hU : Below w.heap.size w U) => check_any P _ _ _ R U (hr.below hU) hS hH hM)
  have hrq := fun U (hU : Below w.heap.size w U) => (hr.below hU).mono (Q := fun _ => True) (fun _ _ _ => trivial)
  have KB := Lib.hid (fun U (hU : Below w.heap.size w U) => rat_any (fun _ => True) _ _ _ R day U (hrq U hU) hS hH hM (fun _ _ => trivial))
  rw [hE0] at KA
  have HE0 := Lib.hid hE0
  have HR := Lib.hid hr
  clear hE0 hr hrq
  by_cases h0 : E0 = 0
  case neg =>
    have e1 := Lib.hid (show pdE R day = E0 by unfold pdE; rw [HE0.out, if_neg h0])
    have e2 := Lib.hid (show pdL R day = [] by unfold pdL; rw [e1.out, if_neg h0])
    have g1 : (E0 == 0) = false := by simpa using h0
    go_enter Tryz.func66, Tryz.ntmps66
    go_wp2_with fail
    refine (KA.out _ (bal brefl _)).mono ?_
    rintro e w1 ⟨rfl, hb1⟩
    go_wp2
    go_ret2
    exact pdW_nil e2.out e1.out (bup (bal brefl _) hb1)
  subst h0
  have hok := chkE_iff.1 HE0.out
  cases hd : inB day 0 35990
  case false =>
    have e1 := Lib.hid (show pdE R day = 2 by unfold pdE; rw [HE0.out, if_pos rfl, hd]; rfl)
    have e2 := Lib.hid (show pdL R day = [] by unfold pdL; rw [e1.out, if_neg (by omega)])
    go_enter Tryz.func66, Tryz.ntmps66
    go_wp2_with fail
    refine (KA.out _ (bal brefl _)).mono ?_
    rintro e w1 ⟨rfl, hb1⟩
    go_wp2_with ((go_at_call 128; refine (amongC_any _ _ _ _).mono ?_; rw [hd]; rintro e w' ⟨rfl, rfl⟩))
    go_ret2
    exact pdW_nil e2.out e1.out (bup (bal brefl _) hb1)
  have e1 := Lib.hid (show pdE R day = 0 by unfold pdE; rw [HE0.out, if_pos rfl, hd]; rfl)
  have e2 := Lib.hid (show pdL R day = (rgAt R day).flatMap (pdF R day) by unfold pdL; rw [e1.out, if_pos rfl])
  have hal := at_len hok day
  have HAF := Lib.hid (at_find hok day)
  obtain ⟨H, hHH⟩ : ∃ H, rgAt R day = H := ⟨_, rfl⟩
  rw [hHH] at KB e2 hal HAF
  obtain ⟨i1, hi, hz0, hz1, hz2⟩ := info_parts infoDue
  clear hHH hok
  rw [e1.out, e2.out]
  go_enter Tryz.func66, Tryz.ntmps66
  go_wp2_with fail
  refine (KA.out _ (bal brefl _)).mono ?_
  rintro e w1 ⟨rfl, hb1⟩
  have HB1 := Lib.hid (bup (bal brefl _) hb1)
  have r0 : w1.cell? ⟨w.heap.size, 0, none⟩ = some (.slice a0 n0 c0) := boxed_cell hb1 0 rfl
  have r1 : w1.cell? ⟨w.heap.size, 1, none⟩ = some (.slice a1 n1 c1) := boxed_cell hb1 1 rfl
  have r2 : w1.cell? ⟨w.heap.size, 2, none⟩ = some (.slice a2 n2 c2) := boxed_cell hb1 2 rfl
  clear hb1
  go_wp2_with fail
  refine (amongC_any _ _ _ _).mono ?_
  rw [hd]
  rintro e w' ⟨rfl, rfl⟩
  go_wp2_with fail
  refine (KB.out _ HB1.out).mono ?_
  rintro e w2 ⟨v2, rfl, hS2, hb2⟩
  obtain ⟨ho, hn, hc, rfl, hhn, -, -⟩ := hS2.shape
  have HS2 := Lib.hid hS2
  have HHN := Lib.hid hhn
  have hn8 : hn ≤ 800 := by omega
  have HB2 := Lib.hid (bup HB1.out hb2)
  have HR0 := Lib.hid (keepB hb2 r0)
  have HR1 := Lib.hid (keepB hb2 r1)
  have HR2 := Lib.hid (keepB hb2 r2)
  have hz2' : w.heap.size ≤ w2.heap.size := HB2.out.size
  clear hS2 hhn hb2 r0 r1 r2 hal
  go_wp2
  go_loopw [7, 24] (fun v iv wr => ∃ k : Nat, k ≤ hn ∧ iv = .int .i64 k ∧ wr.ownsRow w2.heap.size 106 5 v ((H.take k).flatMap (pdF R day)).length (flatE encDue ((H.take k).flatMap (pdF R day))) ∧ Below w2.heap.size w2 wr) (fun _ iv _ => hn - (intOf iv).toNat)
  case atStart => exact ⟨0, by omega, rfl, World.ownsRow_nil _ _ _ _, brefl⟩
  case round =>
    obtain ⟨k, hk, rfl, hown, hbr⟩ := hrel
    have HO := Lib.hid hown
    have HBR := Lib.hid hbr
    have HBr := Lib.hid (bup HB2.out hbr)
    have zr := hbr.size
    by_cases hlt : k < hn
    · obtain ⟨b, off, s, h, a, rfl, -, hbl, hx, k0, k1, k2⟩ := (HS2.out.below hbr).hold hlt
      obtain ⟨x, hfx⟩ := HAF.out _ (List.mem_of_getElem? hx)
      simp only at hfx
      obtain ⟨id, un, is, ma, ra, ev, ix⟩ := x
      have hF : pdF R day ⟨s, h, a⟩ = plL ⟨id, un, is, ma, ra, ev, ix⟩ day ⟨s, h, a⟩ := by unfold pdF; simp only; rw [hfx]
      obtain ⟨M, hM⟩ : ∃ M, plL ⟨id, un, is, ma, ra, ev, ix⟩ day ⟨s, h, a⟩ = M := ⟨_, rfl⟩
      have hMl : M.length ≤ 2 := by rw [← hM]; exact plL_len ..
      have hsn : (H.take (k + 1)).flatMap (pdF R day) = (H.take k).flatMap (pdF R day) ++ M := by rw [take_snocZ hx, List.flatMap_append]; simp [hF, hM]
      have hLl := flat_len (pdF R day) (pdF_len R day) (H.take k)
      have htk : (H.take k).length ≤ k := by rw [List.length_take]; omega
      obtain ⟨L, hL⟩ : ∃ L, (H.take k).flatMap (pdF R day) = L := ⟨_, rfl⟩
      rw [hL] at hLl hsn HO
      have HSN := Lib.hid hsn
      have hLl2 : L.length ≤ 1600 := by omega
      have s0 := keepB hbr HR0.out
      have s1 := keepB hbr HR1.out
      have s2 := keepB hbr HR2.out
      have hne : w.heap.size < wr.heap.size := World.block_lt_of_cell? _ _ s0
      have KF := Lib.hid (rfind_yes P _ _ _ R s id un is ma ra ev ix (wr.alloc (.cells #[.int .i64 s, .int .i64 h, .int .i64 a] 127)) (HR.out.below (bal HBr.out _)) hS hfx)
      have KP := Lib.hid (fun U => plain_any id un is ma ra ev ix s h a day U)
      rw [hM] at KP
      clear hown hbr hx hfx hF hM hsn hL hLl htk
      go_wp2_with fail
      refine KF.out.mono ?_
      rintro e w3 ⟨rfl, hb3⟩
      have z3 := hb3.size
      simp only [World.size_alloc] at z3
      have t0 : w3.cell? ⟨wr.heap.size, 0, none⟩ = some (.int .i64 s) := boxed_cell hb3 0 rfl
      have t1 : w3.cell? ⟨wr.heap.size, 1, none⟩ = some (.int .i64 h) := boxed_cell hb3 1 rfl
      have t2 : w3.cell? ⟨wr.heap.size, 2, none⟩ = some (.int .i64 a) := boxed_cell hb3 2 rfl
      have hlt3 : wr.heap.size < w3.heap.size := by omega
      have HB3 := Lib.hid (bal (bup (bal HBR.out _) hb3) (.cells #[.int .i64 id, .int .i64 un, .int .i64 is, .int .i64 ma, .int .i64 ra, .int .i64 ev, .bool ix] 26))
      have HO3 := Lib.hid ((ownsRow_belowZ (HO.out.alloc _) hb3).alloc (.cells #[.int .i64 id, .int .i64 un, .int .i64 is, .int .i64 ma, .int .i64 ra, .int .i64 ev, .bool ix] 26))
      clear hb3 k0 k1 k2 s0 s1 s2
      go_wp2_with fail
      refine (KP.out _).mono ?_
      rintro e w4 ⟨v4, rfl, hown4, hb4⟩
      have z4 := hb4.size
      simp only [World.size_alloc] at z4
      have HB4 := Lib.hid (bup HB3.out hb4)
      have hO4 := ownsRow_belowZ HO3.out hb4
      have hB4z : w2.heap.size ≤ w4.heap.size := HB4.out.size
      have H4 := Lib.hid hown4
      rcases hown4.2 with ⟨rfl, hM0⟩ | ⟨g, cap, cur, rfl, -⟩
      · have hMn : M = [] := List.eq_nil_of_length_eq_zero hM0
        subst hMn
        clear hown4 hb4 hM0
        go_wp2_with (at_builtin; go_must (refine wpList_append_own_none rfl _ _ 62 rfl w2.heap.size 106 i1 5 Tryz.underlying62 hi _ L.length (flatE encDue L) rfl hO4 rfl ?_))
        go_wp2
        go_roundw
        case rel => exact ⟨k + 1, by omega, by go_num, by rw [HSN.out, List.append_nil]; exact hO4, HB4.out⟩
        case measure => simp [intOf]; omega
      · have hcells := flatE_cells2 H4.out
        clear hown4 hb4
        go_wp2_with (at_builtin; go_must (refine wpList_append_own _ rfl _ _ 62 rfl w2.heap.size 106 i1 (.agg #[.int .i64 0, .int .i64 0, .int .i64 0, .int .i64 0, .int .i64 0]) 5 40 Tryz.underlying62 hi hz0 hz1 hz2 rfl (by decide) _ L.length (flatE encDue L) rfl hO4 ⟨g, 0, none⟩ M.length cap (flatE encDue M) rfl (flatE_length encDue_len M) hcells (oneE oneDue M) (by unfold maxLen; omega) (by omega) hB4z ?_); intro v5 w5 hown5 hg5 _)
        have HB5 := Lib.hid (HB4.out.grown hg5 hB4z (fun q hq => (hO4.lt q hq).1))
        go_wp2
        go_roundw
        case rel => exact ⟨k + 1, by omega, by go_num, by rw [HSN.out, List.length_append, flatE_append]; exact hown5, HB5.out⟩
        case measure => simp [intOf]; omega
    · have hkn : k = hn := by omega
      subst hkn
      have hta : H.take k = H := take_all (by have := HHN.out; omega)
      rw [hta] at HO
      have HO2 := Lib.hid (ownsRow_baseZ HO.out (b' := w.heap.size) hz2')
      obtain ⟨fo, fc, rfl⟩ := own_slice0' hown
      clear hown hta hbr
      go_wp2
      go_ret2
      exact ⟨_, rfl, HO2.out, HBr.out⟩
end Go.Proofs.YthhoaefadfeknaaGreat
