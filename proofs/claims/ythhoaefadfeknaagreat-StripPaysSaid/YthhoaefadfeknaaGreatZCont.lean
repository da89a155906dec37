/- Contracts of coupon's check, Coupon, Last, Accrued. coupon's plain closures: a coupon, an amount. coupon's add: a coupon or a principal that is not 0 is appended. Printed by wip/gen/cpnb.py. slices.Contains at numbers. -/
import Derived.Test.YthhoaefadfeknaaGreatZRegP
import Derived.Test.YthhoaefadfeknaaGreatZRefN
namespace Go.Proofs.YthhoaefadfeknaaGreat
open Go.RowKit
set_option linter.unusedVariables false

theorem ret_ee {a b a' b' : Int} (h : a = a' ∧ b = b') : Ending.returned (.tuple #[.int .i64 a, .int .i64 b]) = .returned (.tuple #[.int .i64 a', .int .i64 b']) := by
  obtain ⟨rfl, rfl⟩ := h; rfl
/-- of a first call in a boxed parameter's world -/
theorem below_box {w w1 : World} {o : Obj} (h : Below (w.alloc o).heap.size (w.alloc o) w1) : Below w.heap.size w w1 := ((Below.refl _ _).alloc (Nat.le_refl _) _).trans (h.mono (by simp))

theorem amongC_any (n lo hi : Int) (w : World) : Calls Tryz.prog 128 #[.int .i64 n, .int .i64 lo, .int .i64 hi] w fun e w' => e = .returned (.bool (inB n lo hi)) ∧ w = w' := by
  go_enter Tryz.func128, Tryz.ntmps128
  go_wp2
  all_goals (go_ret; exact ⟨ret_bool (by simp only [inB]; first | (rw [Bool.eq_iff_iff]; simp; omega) | (simp; omega)), rfl⟩)
theorem nearest_any (n d : Int) (w : World) (h0 : 0 ≤ n) (h1 : n ≤ 9000000000000000000) (d0 : 2 ≤ d) (d1 : d ≤ 1000000000) : Calls Tryz.prog 127 #[.int .i64 n, .int .i64 d] w fun e w' => e = .returned (.int .i64 ((n + d / 2) / d)) ∧ w = w' := by
  have b0 : 0 ≤ (n + d / 2) / d := Int.ediv_nonneg (by omega) (by omega)
  have b1 : (n + d / 2) / d ≤ n + d / 2 := Int.ediv_le_self _ (by omega)
  go_enter Tryz.func127, Tryz.ntmps127
  go_wp2
  go_ret
  exact ⟨rfl, rfl⟩

/-- the error of a security and an amount -/
def ccE (id un is ma ra ev n : Int) : Int := if secB id un is ma ra ev then (if inB n 0 1000000000000 then 0 else 2) else 76
theorem ccheck_any (id un is ma ra ev : Int) (ix : Bool) (n : Int) (w : World) :
    Calls Tryz.prog 126 #[.agg #[.int .i64 id, .int .i64 un, .int .i64 is, .int .i64 ma, .int .i64 ra, .int .i64 ev, .bool ix], .int .i64 n] w fun e w' => e = .returned (.int .i64 (ccE id un is ma ra ev n)) ∧ Below w.heap.size w w' := by
  unfold ccE
  cases hs : secB id un is ma ra ev <;> cases hn : inB n 0 1000000000000
  all_goals
    go_enter Tryz.func126, Tryz.ntmps126
    go_wp2_with fail
    refine (security_any id un is ma ra ev ix _).mono ?_
    rw [hs]
    rintro e w1 ⟨rfl, hb⟩
    have hB := below_box hb
    go_wp2_with (go_at_call 158; refine (valid_any _ _).mono ?_; rintro e w' ⟨rfl, rfl⟩)
    go_ret
    exact ⟨rfl, hB⟩

/-- a coupon -/
def cpN (id un is ma ra ev n : Int) : Int := if ccE id un is ma ra ev n = 0 then (n * ra * ev + 600000) / 1200000 else 0
theorem ccE_zero {id un is ma ra ev n : Int} (h : ccE id un is ma ra ev n = 0) : SecOk id un is ma ra ev ∧ 0 ≤ n ∧ n ≤ 1000000000000 := by
  unfold ccE at h
  split at h
  · split at h
    · exact ⟨secB_iff.1 (by assumption), inB_iff.1 (by assumption)⟩
    · omega
  · omega
theorem ccE_of {id un is ma ra ev n : Int} (h : SecOk id un is ma ra ev) (h0 : 0 ≤ n) (h1 : n ≤ 1000000000000) : ccE id un is ma ra ev n = 0 := by
  unfold ccE
  rw [secB_iff.2 h, inB_iff.2 ⟨h0, h1⟩]
  rfl
theorem coupon_any (id un is ma ra ev : Int) (ix : Bool) (n : Int) (w : World) :
    Calls Tryz.prog 60 #[.agg #[.int .i64 id, .int .i64 un, .int .i64 is, .int .i64 ma, .int .i64 ra, .int .i64 ev, .bool ix], .int .i64 n] w fun e w' => e = .returned (.tuple #[.int .i64 (cpN id un is ma ra ev n), .int .i64 (ccE id un is ma ra ev n)]) ∧ Below w.heap.size w w' := by
  unfold cpN
  by_cases h : ccE id un is ma ra ev n = 0
  · obtain ⟨hs, n0, n1⟩ := ccE_zero h
    obtain ⟨_, _, _, _, _, _, _, _, r0, r1, he⟩ := hs
    have e0 : 0 ≤ ev ∧ ev ≤ 12 := by omega
    obtain ⟨e0, e1⟩ := e0
    obtain ⟨p0, p1⟩ := mul_bd n0 n1 r0 r1
    obtain ⟨q0, q1⟩ := mul_bd p0 p1 e0 e1
    clear he
    rw [if_pos h, h]
    have H := Lib.hid h
    clear h
    go_enter Tryz.func60, Tryz.ntmps60
    go_wp2_with fail
    refine (ccheck_any id un is ma ra ev ix n _).mono ?_
    rw [H.out]
    rintro e w1 ⟨rfl, hb⟩
    obtain ⟨hc, hf⟩ := bcell hb
    have hB := below_box hb
    have hz : w.heap.size < w1.heap.size := by have := hb.size; simp at this; omega
    go_wp2_with (go_at_call 127; refine (nearest_any _ _ _ (by omega) (by omega) (by omega) (by omega)).mono ?_; rintro e w' ⟨rfl, rfl⟩)
    go_ret2
    exact ⟨ret_ee ⟨rfl, rfl⟩, hB⟩
  · rw [if_neg h]
    have h' : (ccE id un is ma ra ev n != 0) = true := by simpa using h
    have H := Lib.hid h
    clear h
    go_enter Tryz.func60, Tryz.ntmps60
    go_wp2_with fail
    refine (ccheck_any id un is ma ra ev ix n _).mono ?_
    rintro e w1 ⟨rfl, hb⟩
    have hB := below_box hb
    go_wp2
    go_ret2
    exact ⟨rfl, hB⟩

/-- the last coupon day -/
def lastD (id un is ma ra ev day : Int) : Int := if secB id un is ma ra ev && inB day is ma then (if ev = 0 then is else day - (day - is) % (30 * ev)) else -1
theorem lastD_yes {id un is ma ra ev day : Int} (h : SecOk id un is ma ra ev) (h0 : is ≤ day) (h1 : day ≤ ma) : lastD id un is ma ra ev day = if ev = 0 then is else day - (day - is) % (30 * ev) := by
  unfold lastD
  rw [secB_iff.2 h, inB_iff.2 ⟨h0, h1⟩]
  rfl
set_option maxHeartbeats 400000 in
theorem last_any (id un is ma ra ev : Int) (ix : Bool) (day : Int) (w : World) :
    Calls Tryz.prog 64 #[.agg #[.int .i64 id, .int .i64 un, .int .i64 is, .int .i64 ma, .int .i64 ra, .int .i64 ev, .bool ix], .int .i64 day] w fun e w' => e = .returned (.int .i64 (lastD id un is ma ra ev day)) ∧ Below w.heap.size w w' := by
  cases hs : secB id un is ma ra ev
  · rw [show lastD id un is ma ra ev day = -1 by simp [lastD, hs]]
    go_enter Tryz.func64, Tryz.ntmps64
    go_wp2_with fail
    refine (security_any id un is ma ra ev ix _).mono ?_
    rw [hs]
    rintro e w1 ⟨rfl, hb⟩
    have hB := below_box hb
    go_wp2
    go_ret
    exact ⟨rfl, hB⟩
  · obtain ⟨_, _, _, _, i0, m0, m1, m2, r0, r1, he⟩ := secB_iff.1 hs
    have HS := Lib.hid hs
    cases hd : inB day is ma
    · rw [show lastD id un is ma ra ev day = -1 by simp [lastD, hd]]
      clear hs he
      go_enter Tryz.func64, Tryz.ntmps64
      go_wp2_with fail
      refine (security_any id un is ma ra ev ix _).mono ?_
      rw [HS.out]
      rintro e w1 ⟨rfl, hb⟩
      obtain ⟨hc, hf⟩ := bcell hb
      have hB := below_box hb
      have hz : w.heap.size < w1.heap.size := by have := hb.size; simp at this; omega
      go_wp2_with (go_at_call 128; refine (amongC_any _ _ _ _).mono ?_; rintro e w' ⟨rfl, rfl⟩)
      go_ret
      exact ⟨rfl, hB⟩
    · obtain ⟨d0, d1⟩ := inB_iff.1 hd
      rw [show lastD id un is ma ra ev day = if ev = 0 then is else day - (day - is) % (30 * ev) by simp [lastD, hs, hd]]
      clear hs
      by_cases e0 : ev = 0
      · rw [if_pos e0]
        have HE := Lib.hid he
        clear he
        have e1 : (ev == 0) = true := by simpa using e0
        clear e0
        go_enter Tryz.func64, Tryz.ntmps64
        go_wp2_with fail
        refine (security_any id un is ma ra ev ix _).mono ?_
        rw [HS.out]
        rintro e w1 ⟨rfl, hb⟩
        obtain ⟨hc, hf⟩ := bcell hb
        have hB := below_box hb
        have hz : w.heap.size < w1.heap.size := by have := hb.size; simp at this; omega
        go_wp2_with (go_at_call 128; refine (amongC_any _ _ _ _).mono ?_; rintro e w' ⟨rfl, rfl⟩)
        go_ret
        exact ⟨rfl, hB⟩
      · rw [if_neg e0]
        have e1 : 1 ≤ ev := by omega
        have e2 : ev ≤ 12 := by omega
        have e3 : (ev == 0) = false := by simpa using e0
        have k0 : 0 ≤ (day - is) % (30 * ev) := Int.emod_nonneg _ (by omega)
        have k1 : (day - is) % (30 * ev) < 30 * ev := Int.emod_lt_of_pos _ (by omega)
        clear he e0
        go_enter Tryz.func64, Tryz.ntmps64
        go_wp2_with fail
        refine (security_any id un is ma ra ev ix _).mono ?_
        rw [HS.out]
        rintro e w1 ⟨rfl, hb⟩
        obtain ⟨hc, hf⟩ := bcell hb
        have hB := below_box hb
        have hz : w.heap.size < w1.heap.size := by have := hb.size; simp at this; omega
        go_wp2_with (go_at_call 128; refine (amongC_any _ _ _ _).mono ?_; rintro e w' ⟨rfl, rfl⟩)
        go_ret
        exact ⟨rfl, hB⟩
end Go.Proofs.YthhoaefadfeknaaGreat
namespace Go.Proofs.YthhoaefadfeknaaGreat
open Go.RowKit
set_option linter.unusedVariables false
set_option linter.unusedSimpArgs false
theorem plain2_any (n : Int) (w : World) : Calls Tryz.prog 186 #[.int .i64 n] w fun e w' => e = .returned (.tuple #[.int .i64 n, .int .i64 0]) ∧ w = w' := by
  go_enter Tryz.func186, Tryz.ntmps186
  go_wp2
  go_ret2
  exact ⟨rfl, rfl⟩
theorem plain1_any (g : Nat) (n : Int) (id un is ma ra ev : Int) (ix : Bool) (w : World) (h0 : w.cell? ⟨g, 0, none⟩ = some (.int .i64 id)) (h1 : w.cell? ⟨g, 1, none⟩ = some (.int .i64 un)) (h2 : w.cell? ⟨g, 2, none⟩ = some (.int .i64 is)) (h3 : w.cell? ⟨g, 3, none⟩ = some (.int .i64 ma)) (h4 : w.cell? ⟨g, 4, none⟩ = some (.int .i64 ra)) (h5 : w.cell? ⟨g, 5, none⟩ = some (.int .i64 ev)) (h6 : w.cell? ⟨g, 6, none⟩ = some (.bool ix)) :
    Calls Tryz.prog 185 #[.int .i64 n, .pointer (some ⟨g, 0, none⟩)] w fun e w' => e = .returned (.tuple #[.int .i64 (cpN id un is ma ra ev n), .int .i64 (ccE id un is ma ra ev n)]) ∧ Below w.heap.size w w' := by
  obtain ⟨c, hc⟩ : ∃ c, cpN id un is ma ra ev n = c := ⟨_, rfl⟩
  obtain ⟨d, hd⟩ : ∃ d, ccE id un is ma ra ev n = d := ⟨_, rfl⟩
  have HC := Lib.hid (coupon_any id un is ma ra ev ix n w)
  rw [hc, hd] at HC
  rw [hc, hd]
  go_enter Tryz.func185, Tryz.ntmps185
  go_wp2_with fail
  refine HC.out.mono ?_
  rintro e w1 ⟨rfl, hb⟩
  go_wp2
  go_ret2
  exact ⟨rfl, hb⟩
end Go.Proofs.YthhoaefadfeknaaGreat
namespace Go.Proofs.YthhoaefadfeknaaGreat
open Go.RowKit
set_option linter.unusedVariables false
set_option linter.unusedSimpArgs false
theorem newsDue (w : World) (g : Nat) (hg : g = w.heap.size) (x0 x1 x2 x3 x4 : Int) : ∀ j u, (encDue ⟨x0, x1, x2, x3, x4⟩)[j]? = some u → (w.alloc (.cells #[.int .i64 x0, .int .i64 x1, .int .i64 x2, .int .i64 x3, .int .i64 x4] 106 (0, 0))).cell? ((⟨g, 0, none⟩ : Addr).add j) = some u := by
  subst hg
  intro j u hj
  rw [add_litZ, Nat.zero_add]
  exact cell_whole (heap_alloc_new w _) hj
/-- what is added -/
def dueL (day s h kind c : Int) : List Due := if c = 0 then [] else [⟨day, s, h, kind, c⟩]
/-- what add leaves: the list in the box ob is longer -/
def Added1 (ob base : Nat) (L : List Due) (E : Int) (w : World) (e : Ending) (w' : World) : Prop :=
  ∃ p len c, e = .returned (.int .i64 E) ∧ len = L.length ∧ w'.heap[ob]? = some (.cells #[.slice p len c] 62 (0, 0)) ∧ w'.ownsRow base 106 5 (.slice p len c) len (flatE encDue L) ∧ w.heap.size ≤ w'.heap.size ∧ (∀ k, k < base → k ≠ ob → w'.heap[k]? = w.heap[k]?) ∧ w'.os = w.os ∧ w'.tape = w.tape ∧ w'.output = w.output
set_option maxHeartbeats 4000000 in
set_option maxRecDepth 100000 in
theorem addC_any (hb ob db base : Nat) (kind day s h a : Int) (p : Option Addr) (len c : Nat) (L : List Due) (g : Nat) (id un is ma ra ev : Int) (ix : Bool) (w : World) (k0 : w.cell? ⟨g, 0, none⟩ = some (.int .i64 id)) (k1 : w.cell? ⟨g, 1, none⟩ = some (.int .i64 un)) (k2 : w.cell? ⟨g, 2, none⟩ = some (.int .i64 is)) (k3 : w.cell? ⟨g, 3, none⟩ = some (.int .i64 ma)) (k4 : w.cell? ⟨g, 4, none⟩ = some (.int .i64 ra)) (k5 : w.cell? ⟨g, 5, none⟩ = some (.int .i64 ev)) (k6 : w.cell? ⟨g, 6, none⟩ = some (.bool ix)) (hH : w.heap[hb]? = some (.cells #[.int .i64 s, .int .i64 h, .int .i64 a] 127 (0, 0))) (hD : w.heap[db]? = some (.cells #[.int .i64 day] 3 (0, 0))) (hO : w.heap[ob]? = some (.cells #[.slice p len c] 62 (0, 0))) (hown : w.ownsRow base 106 5 (.slice p len c) len (flatE encDue L)) (hlen : len = L.length) (hl : len ≤ 100000) (hbase : base ≤ w.heap.size) (h1 : hb < base) (h2 : db < base) (h3 : ob < base) :
    Calls Tryz.prog 164 #[.int .i64 kind, .func (.func 185) #[] #[.pointer (some ⟨g, 0, none⟩)], .pointer (some ⟨hb, 0, none⟩), .pointer (some ⟨ob, 0, none⟩), .pointer (some ⟨db, 0, none⟩)] w (Added1 ob base (L ++ dueL day s h kind (cpN id un is ma ra ev a)) (ccE id un is ma ra ev a) w) := by
  obtain ⟨i1, hi, hz0, hz1, hz2⟩ := info_parts infoDue
  obtain ⟨C, hC⟩ : ∃ C, cpN id un is ma ra ev a = C := ⟨_, rfl⟩
  obtain ⟨E, hE⟩ : ∃ E, ccE id un is ma ra ev a = E := ⟨_, rfl⟩
  rw [hC, hE]
  have x2 := cell_heap (i := 2) hH rfl
  have HK := Lib.hid (plain1_any g a id un is ma ra ev ix w k0 k1 k2 k3 k4 k5 k6)
  rw [hC, hE] at HK
  have HH := Lib.hid hH
  have HD := Lib.hid hD
  have HO := Lib.hid hO
  have HW := Lib.hid hown
  have HL := Lib.hid hlen
  clear hlen
  go_enter Tryz.func164, Tryz.ntmps164
  go_wp2_with fail
  refine HK.out.mono ?_
  rintro e w1 ⟨rfl, hb⟩
  have z1 := hb.size
  have hH1 := (hb.block _ (by omega)).trans HH.out
  have hD1 := (hb.block _ (by omega)).trans HD.out
  have hO1 := (hb.block _ (by omega)).trans HO.out
  have HW1 := Lib.hid (ownsRow_belowZ HW.out hb)
  have HB := Lib.hid hb
  have HO1 := Lib.hid hO1
  have y0 := cell_heap (i := 0) hH1 rfl
  have y1 := cell_heap (i := 1) hH1 rfl
  have y3 := cell_heap (i := 0) hD1 rfl
  have y4 := cell_heap (i := 0) hO1 rfl
  clear hb hH1 hD1 hO1 x2
  by_cases h0 : C = 0
  · subst h0
    go_wp2
    go_ret
    exact ⟨p, len, c, rfl, by simp [dueL, HL.out], HO1.out, by simpa [dueL] using HW1.out, z1, fun k hk _ => HB.out.block k (by omega), HB.out.os, HB.out.tape, HB.out.output⟩
  · have g1 : (C != 0) = true := by simpa using h0
    have g2 : (C == 0) = false := by simpa using h0
    have hdl : dueL day s h kind C = [⟨day, s, h, kind, C⟩] := by unfold dueL; rw [if_neg h0]
    have HDL := Lib.hid hdl
    clear hdl
    go_wp2_with (at_builtin; go_must (refine wpList_append_own _ rfl _ _ 62 rfl base 106 i1 (.agg #[.int .i64 0, .int .i64 0, .int .i64 0, .int .i64 0, .int .i64 0]) 5 40 Tryz.underlying62 hi hz0 hz1 hz2 rfl (by decide) (.slice p len c) len (flatE encDue L) rfl (HW1.out.alloc _) ⟨_, 0, none⟩ 1 1 (encDue ⟨day, s, h, kind, C⟩) rfl rfl (newsDue _ _ (by simp) day s h kind C) (oneDue _) (by unfold maxLen; omega) (by omega) (by simp; omega) ?_); intro v5 w5 ho5 hg5 _; have hb5 : Below base w1 w5 := ((Below.refl _ w1).alloc (by omega) _).grown hg5 (by simp; omega) (fun q hq => (HW1.out.lt q hq).1); have z5 := hb5.size; obtain ⟨p5, c5, rfl⟩ := own_slice0 ho5; have hO5 := (hb5.block ob h3).trans HO1.out; have q0 := cell_heap (i := 0) hO5 rfl; have qf0 := frozen_of_row w5 _ 0 _ _ hO5; have HW5 := Lib.hid ho5; have HO5 := Lib.hid hO5; have HB5 := Lib.hid hb5; clear ho5 hO5 hb5 hg5)
    go_ret
    have e0 := heap_setCell_same w5 _ 0 _ _ (.slice p5 (len + 1) c5) HO5.out
    refine ⟨p5, len + 1, c5, rfl, by rw [HDL.out]; simp [HL.out], e0, ?_, by simp [World.setCell]; omega, fun k hk hne => (Below.heap_setCell _ _ _ _ (by simp only; exact hne)).trans ((HB5.out.block k hk).trans (HB.out.block k (by omega))), ?_, ?_, ?_⟩
    · rw [HDL.out, flatE_snoc]; exact own_kept HW5.out (grownBy_setCellZ ..) (by omega)
    · exact HB5.out.os.trans HB.out.os
    · exact HB5.out.tape.trans HB.out.tape
    · exact HB5.out.output.trans HB.out.output
set_option maxHeartbeats 4000000 in
set_option maxRecDepth 100000 in
theorem addP_any (hb ob db base : Nat) (kind day s h a : Int) (p : Option Addr) (len c : Nat) (L : List Due)  (w : World) (hH : w.heap[hb]? = some (.cells #[.int .i64 s, .int .i64 h, .int .i64 a] 127 (0, 0))) (hD : w.heap[db]? = some (.cells #[.int .i64 day] 3 (0, 0))) (hO : w.heap[ob]? = some (.cells #[.slice p len c] 62 (0, 0))) (hown : w.ownsRow base 106 5 (.slice p len c) len (flatE encDue L)) (hlen : len = L.length) (hl : len ≤ 100000) (hbase : base ≤ w.heap.size) (h1 : hb < base) (h2 : db < base) (h3 : ob < base) :
    Calls Tryz.prog 164 #[.int .i64 kind, .func (.func 186) #[] #[], .pointer (some ⟨hb, 0, none⟩), .pointer (some ⟨ob, 0, none⟩), .pointer (some ⟨db, 0, none⟩)] w (Added1 ob base (L ++ dueL day s h kind (a)) (0) w) := by
  obtain ⟨i1, hi, hz0, hz1, hz2⟩ := info_parts infoDue
  have x2 := cell_heap (i := 2) hH rfl
  have HK := Lib.hid ((plain2_any a w).mono (fun e w' (h : _ ∧ w = w') => (⟨h.1, by rw [← h.2]; exact brefl⟩ : _ ∧ Below w.heap.size w w')))
  have HH := Lib.hid hH
  have HD := Lib.hid hD
  have HO := Lib.hid hO
  have HW := Lib.hid hown
  have HL := Lib.hid hlen
  clear hlen
  go_enter Tryz.func164, Tryz.ntmps164
  go_wp2_with fail
  refine HK.out.mono ?_
  rintro e w1 ⟨rfl, hb⟩
  have z1 := hb.size
  have hH1 := (hb.block _ (by omega)).trans HH.out
  have hD1 := (hb.block _ (by omega)).trans HD.out
  have hO1 := (hb.block _ (by omega)).trans HO.out
  have HW1 := Lib.hid (ownsRow_belowZ HW.out hb)
  have HB := Lib.hid hb
  have HO1 := Lib.hid hO1
  have y0 := cell_heap (i := 0) hH1 rfl
  have y1 := cell_heap (i := 1) hH1 rfl
  have y3 := cell_heap (i := 0) hD1 rfl
  have y4 := cell_heap (i := 0) hO1 rfl
  clear hb hH1 hD1 hO1 x2
  by_cases h0 : a = 0
  · subst h0
    go_wp2
    go_ret
    exact ⟨p, len, c, rfl, by simp [dueL, HL.out], HO1.out, by simpa [dueL] using HW1.out, z1, fun k hk _ => HB.out.block k (by omega), HB.out.os, HB.out.tape, HB.out.output⟩
  · have g1 : (a != 0) = true := by simpa using h0
    have g2 : (a == 0) = false := by simpa using h0
    have hdl : dueL day s h kind a = [⟨day, s, h, kind, a⟩] := by unfold dueL; rw [if_neg h0]
    have HDL := Lib.hid hdl
    clear hdl
    go_wp2_with (at_builtin; go_must (refine wpList_append_own _ rfl _ _ 62 rfl base 106 i1 (.agg #[.int .i64 0, .int .i64 0, .int .i64 0, .int .i64 0, .int .i64 0]) 5 40 Tryz.underlying62 hi hz0 hz1 hz2 rfl (by decide) (.slice p len c) len (flatE encDue L) rfl (HW1.out.alloc _) ⟨_, 0, none⟩ 1 1 (encDue ⟨day, s, h, kind, a⟩) rfl rfl (newsDue _ _ (by simp) day s h kind a) (oneDue _) (by unfold maxLen; omega) (by omega) (by simp; omega) ?_); intro v5 w5 ho5 hg5 _; have hb5 : Below base w1 w5 := ((Below.refl _ w1).alloc (by omega) _).grown hg5 (by simp; omega) (fun q hq => (HW1.out.lt q hq).1); have z5 := hb5.size; obtain ⟨p5, c5, rfl⟩ := own_slice0 ho5; have hO5 := (hb5.block ob h3).trans HO1.out; have q0 := cell_heap (i := 0) hO5 rfl; have qf0 := frozen_of_row w5 _ 0 _ _ hO5; have HW5 := Lib.hid ho5; have HO5 := Lib.hid hO5; have HB5 := Lib.hid hb5; clear ho5 hO5 hb5 hg5)
    go_ret
    have e0 := heap_setCell_same w5 _ 0 _ _ (.slice p5 (len + 1) c5) HO5.out
    refine ⟨p5, len + 1, c5, rfl, by rw [HDL.out]; simp [HL.out], e0, ?_, by simp [World.setCell]; omega, fun k hk hne => (Below.heap_setCell _ _ _ _ (by simp only; exact hne)).trans ((HB5.out.block k hk).trans (HB.out.block k (by omega))), ?_, ?_, ?_⟩
    · rw [HDL.out, flatE_snoc]; exact own_kept HW5.out (grownBy_setCellZ ..) (by omega)
    · exact HB5.out.os.trans HB.out.os
    · exact HB5.out.tape.trans HB.out.tape
    · exact HB5.out.output.trans HB.out.output
end Go.Proofs.YthhoaefadfeknaaGreat
namespace Go.Proofs.YthhoaefadfeknaaGreat
open Go.RowKit
set_option linter.unusedVariables false
set_option linter.unusedSimpArgs false
/-- the place of a number, or -1 -/
def idxI : List Int → Int → Int → Int
  | [], _, _ => -1
  | a :: L, x, k => if a = x then k else idxI L x (k + 1)
theorem idxI_mem : ∀ {L : List Int} {x k : Int}, 0 ≤ k → (0 ≤ idxI L x k ↔ x ∈ L)
  | [], x, k, _ => by simp [idxI]
  | a :: L, x, k, hk => by
    simp only [idxI]
    by_cases h : a = x
    · rw [if_pos h]; simp [h, hk]
    · rw [if_neg h, idxI_mem (by omega)]
      simp only [List.mem_cons]
      constructor
      · exact fun q => .inr q
      · rintro (q | q)
        · exact absurd q.symm h
        · exact q
theorem index_any (P : Nat → Prop) (v : Value) (L : List Int) (x : Int) (w : World) (hS : Sl 1 encI P w v L) (hlen : L.length ≤ 1000000) :
    Calls Tryz.prog 196 #[v, .int .i64 x] w fun e w' => e = .returned (.int .i64 (idxI L x 0)) ∧ w = w' := by
  obtain ⟨ao, n, c, rfl, hn, hnc, hcm⟩ := hS.shape
  have hn1 : n ≤ 1000000 := by omega
  obtain ⟨r, hr⟩ : ∃ r, idxI L x 0 = r := ⟨_, rfl⟩
  rw [hr]
  have HS := Lib.hid hS
  have HN := Lib.hid hn
  have HR := Lib.hid hr
  clear hS hn hlen hr
  go_enter Tryz.func196, Tryz.ntmps196
  go_wp2
  go_loopw [8] (fun iv wr => ∃ k : Nat, k ≤ n ∧ iv = .int .i64 k ∧ r = idxI (L.drop k) x k ∧ wr = w) (fun iv _ => n - (intOf iv).toNat)
  case atStart => exact ⟨0, by omega, rfl, by rw [List.drop_zero]; exact HR.out.symm, rfl⟩
  case round =>
    obtain ⟨k, hk, rfl, hrk, rfl⟩ := hrel
    by_cases hlt : k < n
    · obtain ⟨b, off, a, rfl, -, hb', hL, k0⟩ := HS.out.int hlt
      rw [drop_cons hL] at hrk
      simp only [idxI] at hrk
      have HRK := Lib.hid hrk
      have hkn : (k : Int) < n := by omega
      clear hL hrk
      by_cases e1 : a = x
      · have hf : r = (k : Int) := by rw [HRK.out, if_pos e1]
        subst hf
        subst e1
        go_wp2
        go_ret
        exact ⟨rfl, rfl⟩
      · have hrel2 := Lib.hid (show r = idxI (L.drop (k + 1)) x ((k + 1 : Nat) : Int) by rw [HRK.out, if_neg e1]; rfl)
        have q1 : (x == a) = false := by simp; omega
        go_wp2
        go_roundw
        case rel => exact ⟨k + 1, by omega, by go_num, hrel2.out, by first | rfl | trivial⟩
        case measure => simp [intOf]; omega
    · have hf : r = -1 := by rw [hrk, drop_all (by have := HN.out; omega)]; rfl
      subst hf
      clear hrk
      go_wp2
      go_ret
      exact ⟨rfl, rfl⟩
theorem contains_any (P : Nat → Prop) (v : Value) (L : List Int) (x : Int) (w : World) (hS : Sl 1 encI P w v L) (hlen : L.length ≤ 1000000) :
    Calls Tryz.prog 165 #[v, .int .i64 x] w fun e w' => e = .returned (.bool (decide (x ∈ L))) ∧ w = w' := by
  have hd : decide (x ∈ L) = decide (0 ≤ idxI L x 0) := by rw [decide_eq_decide]; exact (idxI_mem (by omega)).symm
  rw [hd]
  obtain ⟨ao, n, c, rfl, -, -, -⟩ := hS.shape
  obtain ⟨r, hr⟩ : ∃ r, idxI L x 0 = r := ⟨_, rfl⟩
  have HC := Lib.hid (index_any P _ L x w hS hlen)
  rw [hr] at HC ⊢
  clear hr hd hS
  go_enter Tryz.func165, Tryz.ntmps165
  go_wp2_with fail
  refine HC.out.mono ?_
  rintro e w1 ⟨rfl, rfl⟩
  go_wp2
  go_ret
  exact ⟨ret_bool (by first | rfl | simp), rfl⟩
end Go.Proofs.YthhoaefadfeknaaGreat
