/- Contracts of reopening's among, ratio, Given (out of XReop). reopening: Check, Swap. reopening.Swap. -/
import Derived.Test.YtmhglabcnimegaaZRegP
import Derived.Deep.QuietTactic
import Derived.BigQuiet
import Derived.WalkSmall
import Derived.Test.YtmhglabcnimegaaZRegN
import Derived.Test.YtmhglabcnimegaaZRefN
namespace Go.Proofs.Ytmhglabcnimegaa
open Go.RowKit
set_option linter.unusedVariables false
theorem below_box {w w1 : World} {o : Obj} (h : Below (w.alloc o).heap.size (w.alloc o) w1) : Below w.heap.size w w1 := below_boxZ h
theorem ret_ab' {a b a' b' : Int} (h : a = a' ∧ b = b') : Ending.returned (.tuple #[.int .i64 a, .int .i64 b]) = .returned (.tuple #[.int .i64 a', .int .i64 b']) := by
  obtain ⟨rfl, rfl⟩ := h; rfl
theorem amongO_any (n lo hi : Int) (w : World) : Calls Try.prog 138 #[.int .i64 n, .int .i64 lo, .int .i64 hi] w fun e w' => e = .returned (.bool (inB n lo hi)) ∧ w = w' := by
  go_enter Try.func138, Try.ntmps138
  go_wp2
  all_goals (go_ret; exact ⟨ret_bool (by simp only [inB]; first | (rw [Bool.eq_iff_iff]; simp; omega) | (simp; omega)), rfl⟩)
/-- what a switch gives -/
theorem ratioS_any (old new num den : Int) (w : World) : Calls Try.prog 137 #[.agg #[.int .i64 old, .int .i64 new, .int .i64 num, .int .i64 den]] w fun e w' => e = .returned (.bool (inB num 1 1000000 && inB den 1 1000000)) ∧ Below w.heap.size w w' := by
  cases h1 : inB num 1 1000000 <;> cases h2 : inB den 1 1000000
  all_goals
    go_enter Try.func137, Try.ntmps137
    go_wp2_with (go_at_call 138; refine (amongO_any _ _ _ _).mono ?_; rintro e w' ⟨rfl, rfl⟩)
    go_ret
    exact ⟨rfl, (Below.refl _ _).alloc (Nat.le_refl _) _⟩
def gvOk (num den unit a : Int) : Bool := inB a 0 1000000000000 && inB unit 1 1000000000 && (inB num 1 1000000 && inB den 1 1000000) && inB (a * num / den) 0 1000000000000
def gvA (num den unit a : Int) : Int := if gvOk num den unit a then a * num / den - a * num / den % unit else 0
def gvB (num den unit a : Int) : Int := if gvOk num den unit a then a * num / den % unit else 0
set_option maxHeartbeats 1000000 in
theorem given_any (old new num den unit a : Int) (w : World) : Calls Try.prog 84 #[.agg #[.int .i64 old, .int .i64 new, .int .i64 num, .int .i64 den], .int .i64 unit, .int .i64 a] w fun e w' => e = .returned (.tuple #[.int .i64 (gvA num den unit a), .int .i64 (gvB num den unit a)]) ∧ Below w.heap.size w w' := by
  unfold gvA gvB
  cases h1 : inB a 0 1000000000000
  · rw [if_neg (by simp [gvOk, h1]), if_neg (by simp [gvOk, h1])]
    go_enter Try.func84, Try.ntmps84
    go_wp2_with fail
    refine (valid_any _ _).mono ?_
    rw [h1]
    rintro e w' ⟨rfl, rfl⟩
    go_wp2
    go_ret2
    exact ⟨rfl, (Below.refl _ _).alloc (Nat.le_refl _) _⟩
  cases h2 : inB unit 1 1000000000
  · rw [if_neg (by simp [gvOk, h1, h2]), if_neg (by simp [gvOk, h1, h2])]
    go_enter Try.func84, Try.ntmps84
    go_wp2_with fail
    refine (valid_any _ _).mono ?_
    rw [h1]
    rintro e w' ⟨rfl, rfl⟩
    go_wp2_with fail
    refine (amongO_any _ _ _ _).mono ?_
    rw [h2]
    rintro e w' ⟨rfl, rfl⟩
    go_wp2
    go_ret2
    exact ⟨rfl, (Below.refl _ _).alloc (Nat.le_refl _) _⟩
  cases h3 : (inB num 1 1000000 && inB den 1 1000000)
  · rw [if_neg (by simp [gvOk, h3]), if_neg (by simp [gvOk, h3])]
    go_enter Try.func84, Try.ntmps84
    go_wp2_with fail
    refine (valid_any _ _).mono ?_
    rw [h1]
    rintro e w' ⟨rfl, rfl⟩
    go_wp2_with fail
    refine (amongO_any _ _ _ _).mono ?_
    rw [h2]
    rintro e w' ⟨rfl, rfl⟩
    go_wp2_with fail
    refine (ratioS_any _ _ _ _ _).mono ?_
    rw [h3]
    rintro e w1 ⟨rfl, hb⟩
    have hB := below_box hb
    go_wp2
    go_ret2
    exact ⟨rfl, hB⟩
  obtain ⟨a0, a1⟩ := inB_iff.1 h1
  obtain ⟨u0, u1⟩ := inB_iff.1 h2
  have h3' := h3
  rw [Bool.and_eq_true, inB_iff, inB_iff] at h3'
  obtain ⟨⟨n0, n1⟩, d0, d1⟩ := h3'
  obtain ⟨q0, q1⟩ := mul_bd a0 a1 (show 0 ≤ num by omega) n1
  have r0 : 0 ≤ a * num / den := Int.ediv_nonneg q0 (by omega)
  have r1 : a * num / den ≤ a * num := Int.ediv_le_self _ q0
  have H3 := Lib.hid h3
  clear h3
  cases h4 : inB (a * num / den) 0 1000000000000
  · rw [if_neg (by simp [gvOk, h4]), if_neg (by simp [gvOk, h4])]
    go_enter Try.func84, Try.ntmps84
    go_wp2_with fail
    refine (valid_any _ _).mono ?_
    rw [h1]
    rintro e w' ⟨rfl, rfl⟩
    go_wp2_with fail
    refine (amongO_any _ _ _ _).mono ?_
    rw [h2]
    rintro e w' ⟨rfl, rfl⟩
    go_wp2_with fail
    refine (ratioS_any _ _ _ _ _).mono ?_
    rw [H3.out]
    rintro e w1 ⟨rfl, hb⟩
    obtain ⟨hc, hf⟩ := bcell hb
    have hz : w.heap.size < w1.heap.size := by have := hb.size; simp at this; omega
    have hB := below_box hb
    go_wp2_with fail
    refine (valid_any _ _).mono ?_
    rw [h4]
    rintro e w' ⟨rfl, rfl⟩
    go_wp2
    go_ret2
    exact ⟨rfl, hB⟩
  · rw [if_pos (by simp [gvOk, h1, h2, H3.out, h4]), if_pos (by simp [gvOk, h1, h2, H3.out, h4])]
    have s0 : 0 ≤ a * num / den % unit := Int.emod_nonneg _ (by omega)
    have s1 : a * num / den % unit < unit := Int.emod_lt_of_pos _ (by omega)
    have m0 : IntKind.i64.wrap (a * num / den - a * num / den % unit) = a * num / den - a * num / den % unit := IntWalk.i64_in _ (by omega)
    have m1 : (a * num / den).tmod unit = a * num / den % unit := Int.tmod_eq_emod_of_nonneg r0
    have m2 : IntKind.i64.wrap (a * num / den % unit) = a * num / den % unit := IntWalk.i64_in _ (by omega)
    go_enter Try.func84, Try.ntmps84
    go_wp2_with fail
    refine (valid_any _ _).mono ?_
    rw [h1]
    rintro e w' ⟨rfl, rfl⟩
    go_wp2_with fail
    refine (amongO_any _ _ _ _).mono ?_
    rw [h2]
    rintro e w' ⟨rfl, rfl⟩
    go_wp2_with fail
    refine (ratioS_any _ _ _ _ _).mono ?_
    rw [H3.out]
    rintro e w1 ⟨rfl, hb⟩
    obtain ⟨hc, hf⟩ := bcell hb
    have hz : w.heap.size < w1.heap.size := by have := hb.size; simp at this; omega
    have hB := below_box hb
    go_wp2_with fail
    refine (valid_any _ _).mono ?_
    rw [h4]
    rintro e w' ⟨rfl, rfl⟩
    go_wp2_with fail
    go_quiet (fail)
    go_wp2
    go_ret2
    exact ⟨ret_ab' ⟨by first | rfl | omega, by first | rfl | omega⟩, below_drewZ hB _⟩
end Go.Proofs.Ytmhglabcnimegaa
namespace Go.Proofs.Ytmhglabcnimegaa
open Go.RowKit
set_option linter.unusedVariables false
set_option linter.unusedSimpArgs false
/-- register.Find in one contract -/
theorem rfind_any (P : Nat → Prop) (vs vh vm : Value) (R : Reg) (x : Int) (w : World) (hr : RgIn P w vs vh vm R) (hlen : R.secs.length ≤ 1000000) (b : Bool) (hb : (findS R.secs x).isSome = b) :
    Calls Try.prog 44 #[.agg #[vs, vh, vm], .int .i64 x] w fun e w' => ∃ (id un is ma ra ev : Int) (ix : Bool), e = .returned (.tuple #[.agg #[.int .i64 id, .int .i64 un, .int .i64 is, .int .i64 ma, .int .i64 ra, .int .i64 ev, .bool ix], .bool b]) ∧ Below w.heap.size w w' := by
  cases hf : findS R.secs x with
  | none =>
    rw [hf] at hb
    subst hb
    exact (rfind_no P vs vh vm R x w hr hlen hf).mono fun e w' ⟨h1, h2⟩ => ⟨0, 0, 0, 0, 0, 0, false, h1, h2⟩
  | some s =>
    rw [hf] at hb
    subst hb
    obtain ⟨id, un, is, ma, ra, ev, ix⟩ := s
    exact (rfind_yes P vs vh vm R x id un is ma ra ev ix w hr hlen hf).mono fun e w' ⟨h1, h2⟩ => ⟨id, un, is, ma, ra, ev, ix, h1, h2⟩
/-- the error of a switch -/
def swE (R : Reg) (old new num den : Int) : Int := if chkE R = 0 then (if ((findS R.secs old).isSome && (findS R.secs new).isSome && !decide (old = new) && (inB num 1 1000000 && inB den 1 1000000)) = true then 0 else 80) else chkE R
set_option maxHeartbeats 4000000 in
set_option maxRecDepth 100000 in
theorem swcheck_any (P : Nat → Prop) (vs vh vm : Value) (R : Reg) (old new num den : Int) (w : World) (hr : RgIn P w vs vh vm R) (hS : R.secs.length ≤ 1000000) (hH : R.hs.length ≤ 1000000) (hM : R.ms.length ≤ 1000000) :
    Calls Try.prog 82 #[.agg #[vs, vh, vm], .agg #[.int .i64 old, .int .i64 new, .int .i64 num, .int .i64 den]] w fun e w' => e = .returned (.int .i64 (swE R old new num den)) ∧ Below w.heap.size w w' := by
  obtain ⟨a0, n0, c0, rfl, -, -, -⟩ := hr.S.shape
  obtain ⟨a1, n1, c1, rfl, -, -, -⟩ := hr.H.shape
  obtain ⟨a2, n2, c2, rfl, -, -, -⟩ := hr.M.shape
  obtain ⟨E, hE⟩ : ∃ E, swE R old new num den = E := ⟨_, rfl⟩
  rw [hE]
  unfold swE at hE
  obtain ⟨E0, hE0⟩ : ∃ E, chkE R = E := ⟨_, rfl⟩
  obtain ⟨b1, hb1⟩ : ∃ b, (findS R.secs old).isSome = b := ⟨_, rfl⟩
  obtain ⟨b2, hb2⟩ : ∃ b, (findS R.secs new).isSome = b := ⟨_, rfl⟩
  obtain ⟨b3, hb3⟩ : ∃ b, (inB num 1 1000000 && inB den 1 1000000) = b := ⟨_, rfl⟩
  rw [hE0, hb1, hb2, hb3] at hE
  have HE := Lib.hid hE
  have HB3 := Lib.hid hb3
  have KA := Lib.hid (fun U (hU : Below w.heap.size w U) => check_any P _ _ _ R U (hr.below hU) hS hH hM)
  have KB := Lib.hid (fun U (hU : Below w.heap.size w U) => rfind_any P _ _ _ R old U (hr.below hU) hS b1 hb1)
  have KC := Lib.hid (fun U (hU : Below w.heap.size w U) => rfind_any P _ _ _ R new U (hr.below hU) hS b2 hb2)
  rw [hE0] at KA
  clear hr hS hH hM hE hE0 hb1 hb2 hb3
  by_cases h0 : E0 = 0
  case neg =>
    have hf : E = E0 := by rw [← HE.out, if_neg h0]
    subst hf
    have g1 : (E == 0) = false := by simpa using h0
    go_enter Try.func82, Try.ntmps82
    go_wp2_with fail
    refine (KA.out _ (bal (bal brefl _) _)).mono ?_
    rintro e w1 ⟨rfl, hb1⟩
    go_wp2
    go_ret
    exact ⟨rfl, bup (bal (bal brefl _) _) hb1⟩
  subst h0
  have HE2 := Lib.hid (show (if (b1 && b2 && !decide (old = new) && b3) = true then (0 : Int) else 80) = E by rw [← HE.out, if_pos rfl])
  clear HE
  go_enter Try.func82, Try.ntmps82
  go_wp2_with fail
  refine (KA.out _ (bal (bal brefl _) _)).mono ?_
  rintro e w1 ⟨rfl, hb1⟩
  have z1 := hb1.size
  simp only [World.size_alloc] at z1
  have HB1 := Lib.hid (bup (bal (bal brefl _) _) hb1)
  have x0 : w1.cell? ⟨w.heap.size + 1, 0, none⟩ = some (.int .i64 old) := (hb1.cell (p := ⟨w.heap.size + 1, 0, none⟩) (by simp)).trans ((World.cell?_alloc_at _ _ _ _ (by simp)).trans rfl)
  have x1 : w1.cell? ⟨w.heap.size + 1, 1, none⟩ = some (.int .i64 new) := (hb1.cell (p := ⟨w.heap.size + 1, 1, none⟩) (by simp)).trans ((World.cell?_alloc_at _ _ _ _ (by simp)).trans rfl)
  have x2 : w1.cell? ⟨w.heap.size + 1, 2, none⟩ = some (.int .i64 num) := (hb1.cell (p := ⟨w.heap.size + 1, 2, none⟩) (by simp)).trans ((World.cell?_alloc_at _ _ _ _ (by simp)).trans rfl)
  have x3 : w1.cell? ⟨w.heap.size + 1, 3, none⟩ = some (.int .i64 den) := (hb1.cell (p := ⟨w.heap.size + 1, 3, none⟩) (by simp)).trans ((World.cell?_alloc_at _ _ _ _ (by simp)).trans rfl)
  have r0 : w1.cell? ⟨w.heap.size, 0, none⟩ = some (.slice a0 n0 c0) := keepB hb1 (keepA ((World.cell?_alloc_at _ _ _ _ rfl).trans rfl))
  have r1 : w1.cell? ⟨w.heap.size, 1, none⟩ = some (.slice a1 n1 c1) := keepB hb1 (keepA ((World.cell?_alloc_at _ _ _ _ rfl).trans rfl))
  have r2 : w1.cell? ⟨w.heap.size, 2, none⟩ = some (.slice a2 n2 c2) := keepB hb1 (keepA ((World.cell?_alloc_at _ _ _ _ rfl).trans rfl))
  clear hb1
  go_wp2_with fail
  refine (KB.out _ HB1.out).mono ?_
  rintro e w2 ⟨id, un, is, ma, ra, ev, ix, rfl, hb2⟩
  have z2 := hb2.size
  have HB2 := Lib.hid (bal (bup HB1.out hb2) (.cells #[.int .i64 id, .int .i64 un, .int .i64 is, .int .i64 ma, .int .i64 ra, .int .i64 ev, .bool ix] 41))
  have y0 := keepA (o := .cells #[.int .i64 id, .int .i64 un, .int .i64 is, .int .i64 ma, .int .i64 ra, .int .i64 ev, .bool ix] 41) (keepB hb2 x0)
  have y1 := keepA (o := .cells #[.int .i64 id, .int .i64 un, .int .i64 is, .int .i64 ma, .int .i64 ra, .int .i64 ev, .bool ix] 41) (keepB hb2 x1)
  have y2 := keepA (o := .cells #[.int .i64 id, .int .i64 un, .int .i64 is, .int .i64 ma, .int .i64 ra, .int .i64 ev, .bool ix] 41) (keepB hb2 x2)
  have y3 := keepA (o := .cells #[.int .i64 id, .int .i64 un, .int .i64 is, .int .i64 ma, .int .i64 ra, .int .i64 ev, .bool ix] 41) (keepB hb2 x3)
  have HY0 := Lib.hid y0
  have HY1 := Lib.hid y1
  have HY2 := Lib.hid y2
  have HY3 := Lib.hid y3
  have s0 := keepB hb2 r0
  have s1 := keepB hb2 r1
  have s2 := keepB hb2 r2
  have s3 := keepB hb2 x1
  have hne : w.heap.size < w2.heap.size := by omega
  have hne1 : w.heap.size + 1 < w2.heap.size := by omega
  clear hb2 y0 y1 y2 y3 x0 x1 x2 x3 r0 r1 r2
  go_wp2_with fail
  refine (KC.out _ HB2.out).mono ?_
  rintro e w3 ⟨id', un', is', ma', ra', ev', ix', rfl, hb3⟩
  have HB3' := Lib.hid (bal (bup HB2.out hb3) (.cells #[.int .i64 id', .int .i64 un', .int .i64 is', .int .i64 ma', .int .i64 ra', .int .i64 ev', .bool ix'] 41))
  have v0 := keepB hb3 HY0.out
  have v1 := keepB hb3 HY1.out
  have v2 := keepB hb3 HY2.out
  have v3 := keepB hb3 HY3.out
  have hne2 : w.heap.size + 1 < w3.heap.size := World.block_lt_of_cell? _ _ v0
  clear hb3 HY0 HY1 HY2 HY3 s0 s1 s2 s3
  go_wp2_with (go_at_call 137; refine (ratioS_any _ _ _ _ _).mono ?_; rw [HB3.out]; rintro e w4 ⟨rfl, hb4⟩)
  all_goals
    go_ret
    refine ⟨ret_int ?_, by first | exact HB3'.out | exact bup HB3'.out (by assumption)⟩
    rw [← HE2.out]
    simp_all
end Go.Proofs.Ytmhglabcnimegaa
namespace Go.Proofs.Ytmhglabcnimegaa
open Go.RowKit
set_option linter.unusedVariables false
set_option linter.unusedSimpArgs false
/-- the unit of a security, 0 without one -/
def unS (R : Reg) (id : Int) : Int := match findS R.secs id with | some s => s.un | none => 0
def spM1 (day old h a : Int) : Mv := ⟨0, day, 3, old, h, 0, a⟩
def spM2 (day new h g : Int) : Mv := ⟨0, day, 1, new, 0, h, g⟩
def spG (R : Reg) (new num den a : Int) : Int := gvA num den (unS R new) a
def spE (R : Reg) (day old new num den h a : Int) : Int :=
  if swE R old new num den = 0 then
    (if inB a 0 1000000000000 && inB (a * num / den) 0 1000000000000 then
      (if rmE R (spM1 day old h a) = 0 then (if 0 < spG R new num den a then rmE (rmR R (spM1 day old h a)) (spM2 day new h (spG R new num den a)) else 0) else rmE R (spM1 day old h a))
     else 2)
  else swE R old new num den
def spR (R : Reg) (day old new num den h a : Int) : Reg :=
  if spE R day old new num den h a = 0 then (if 0 < spG R new num den a then rmR (rmR R (spM1 day old h a)) (spM2 day new h (spG R new num den a)) else rmR R (spM1 day old h a)) else ⟨[], [], []⟩
def spC (R : Reg) (day old new num den h a : Int) : Int := if spE R day old new num den h a = 0 then gvB num den (unS R new) a else 0
/-- a register, a number and an error that a function hands back -/
def GaveRC (P : Nat → Prop) (R : Reg) (C E : Int) (w : World) (e : Ending) (w' : World) : Prop :=
  ∃ vs vh vm, e = .returned (.tuple #[.agg #[vs, vh, vm], .int .i64 C, .int .i64 E]) ∧ RgIn P w' vs vh vm R ∧ Below w.heap.size w w'
theorem gaveRC_nil {P : Nat → Prop} {R : Reg} {C E k : Int} {w w' : World} (hR : R = ⟨[], [], []⟩) (hC : C = 0) (hE : E = k) (hb : Below w.heap.size w w') : GaveRC P R C E w (.returned (.tuple #[.agg #[.slice none 0 0, .slice none 0 0, .slice none 0 0], .int .i64 0, .int .i64 k])) w' := by
  subst hR hC hE; exact ⟨_, _, _, rfl, rgIn_nil _ _, hb⟩
theorem swE_zero {R : Reg} {old new num den : Int} (h : swE R old new num den = 0) : RgOk R ∧ (∃ s, findS R.secs old = some s) ∧ (∃ s, findS R.secs new = some s) ∧ old ≠ new ∧ (1 ≤ num ∧ num ≤ 1000000) ∧ 1 ≤ den ∧ den ≤ 1000000 := by
  unfold swE at h
  by_cases h0 : chkE R = 0
  · rw [if_pos h0] at h
    by_cases h1 : ((findS R.secs old).isSome && (findS R.secs new).isSome && !decide (old = new) && (inB num 1 1000000 && inB den 1 1000000)) = true
    · simp only [Bool.and_eq_true, Bool.not_eq_true', decide_eq_false_iff_not, inB_iff] at h1
      obtain ⟨⟨⟨h1, h2⟩, h3⟩, h4, h5⟩ := h1
      exact ⟨chkE_iff.1 h0, Option.isSome_iff_exists.1 h1, Option.isSome_iff_exists.1 h2, h3, h4, h5⟩
    · rw [if_neg h1] at h; omega
  · rw [if_neg h0] at h; exact absurd h h0
theorem ok_len {R : Reg} (h : RgOk R) : R.secs.length ≤ 1000000 ∧ R.hs.length ≤ 1000000 ∧ R.ms.length ≤ 1000000 := ⟨by have := h.ls; omega, by have := h.hl; omega, by have := h.lm; omega⟩
set_option maxHeartbeats 8000000 in
set_option maxRecDepth 100000 in
theorem swap_any (P : Nat → Prop) (vs vh vm : Value) (R : Reg) (day old new num den h a : Int) (w : World) (hr : RgIn P w vs vh vm R) (hS : R.secs.length ≤ 1000000) (hH : R.hs.length ≤ 1000000) (hM : R.ms.length ≤ 1000000) (hP : ∀ b, w.heap.size ≤ b → P b) :
    Calls Try.prog 18 #[.agg #[vs, vh, vm], .int .i64 day, .agg #[.int .i64 old, .int .i64 new, .int .i64 num, .int .i64 den], .int .i64 h, .int .i64 a] w (GaveRC P (spR R day old new num den h a) (spC R day old new num den h a) (spE R day old new num den h a) w) := by
  obtain ⟨a0, n0, c0, rfl, -, -, -⟩ := hr.S.shape
  obtain ⟨a1, n1, c1, rfl, -, -, -⟩ := hr.H.shape
  obtain ⟨a2, n2, c2, rfl, -, -, -⟩ := hr.M.shape
  have KA := Lib.hid (fun U (hU : Below w.heap.size w U) => swcheck_any P _ _ _ R old new num den U (hr.below hU) hS hH hM)
  obtain ⟨E0, hE0⟩ : ∃ E, swE R old new num den = E := ⟨_, rfl⟩
  rw [hE0] at KA
  have HE0 := Lib.hid hE0
  have HR := Lib.hid hr
  clear hr hE0
  by_cases h0 : E0 = 0
  case neg =>
    have e1 := Lib.hid (show spE R day old new num den h a = E0 by unfold spE; rw [HE0.out, if_neg h0])
    have e2 := Lib.hid (show spR R day old new num den h a = ⟨[], [], []⟩ by unfold spR; rw [e1.out, if_neg h0])
    have e3 := Lib.hid (show spC R day old new num den h a = 0 by unfold spC; rw [e1.out, if_neg h0])
    have g1 : (E0 == 0) = false := by simpa using h0
    go_enter Try.func18, Try.ntmps18
    go_wp2_with fail
    refine (KA.out _ (bal (bal (bal brefl _) _) _)).mono ?_
    rintro e w1 ⟨rfl, hb1⟩
    obtain ⟨hc, hf⟩ := bcell hb1
    have hz : w.heap.size + 1 + 1 < w1.heap.size := by have := hb1.size; simp at this; omega
    go_wp2
    refine bodyPost_ret (v := .tuple #[.agg #[.slice none 0 0, .slice none 0 0, .slice none 0 0], .int .i64 0, .int .i64 E0]) (by simp [results, Try.results18, go_sem, hc, hz]) rfl (gaveRC_nil e2.out e3.out e1.out ?_)
    exact bset3 (bup (bal (bal (bal brefl _) _) _) hb1) (by omega) _ _ _
  subst h0
  obtain ⟨hok, -, ⟨s2, hs2⟩, hne, ⟨hn0, hn1⟩, hd0, hd1⟩ := swE_zero HE0.out
  cases g1 : inB a 0 1000000000000
  case false =>
    have e1 := Lib.hid (show spE R day old new num den h a = 2 by unfold spE; rw [HE0.out, if_pos rfl, g1]; rfl)
    have e2 := Lib.hid (show spR R day old new num den h a = ⟨[], [], []⟩ by unfold spR; rw [e1.out, if_neg (by omega)])
    have e3 := Lib.hid (show spC R day old new num den h a = 0 by unfold spC; rw [e1.out, if_neg (by omega)])
    clear hs2
    go_enter Try.func18, Try.ntmps18
    go_wp2_with fail
    refine (KA.out _ (bal (bal (bal brefl _) _) _)).mono ?_
    rintro e w1 ⟨rfl, hb1⟩
    obtain ⟨hc, hf⟩ := bcell hb1
    have hz : w.heap.size + 1 + 1 < w1.heap.size := by have := hb1.size; simp at this; omega
    go_wp2_with ((go_at_call 83; refine (valid_any _ _).mono ?_; rw [g1]; rintro e w' ⟨rfl, rfl⟩))
    refine bodyPost_ret (v := .tuple #[.agg #[.slice none 0 0, .slice none 0 0, .slice none 0 0], .int .i64 0, .int .i64 2]) (by simp [results, Try.results18, go_sem, hc, hz]) rfl (gaveRC_nil e2.out e3.out e1.out ?_)
    exact bset3 (bup (bal (bal (bal brefl _) _) _) hb1) (by omega) _ _ _
  obtain ⟨p0, p1⟩ := inB_iff.1 g1
  obtain ⟨q0, q1⟩ := mul_bd p0 p1 (show 0 ≤ num by omega) hn1
  have hdz : ¬ den = 0 := by omega
  cases g2 : inB (a * num / den) 0 1000000000000
  case false =>
    have e1 := Lib.hid (show spE R day old new num den h a = 2 by unfold spE; rw [HE0.out, if_pos rfl, g1, g2]; rfl)
    have e2 := Lib.hid (show spR R day old new num den h a = ⟨[], [], []⟩ by unfold spR; rw [e1.out, if_neg (by omega)])
    have e3 := Lib.hid (show spC R day old new num den h a = 0 by unfold spC; rw [e1.out, if_neg (by omega)])
    clear hs2
    go_enter Try.func18, Try.ntmps18
    go_wp2_with fail
    refine (KA.out _ (bal (bal (bal brefl _) _) _)).mono ?_
    rintro e w1 ⟨rfl, hb1⟩
    obtain ⟨hc, hf⟩ := bcell hb1
    have hz : w.heap.size + 1 + 1 < w1.heap.size := by have := hb1.size; simp at this; omega
    go_wp2_with fail
    refine (valid_any _ _).mono ?_
    rw [g1]
    rintro e w' ⟨rfl, rfl⟩
    go_wp2_with fail
    refine (valid_any _ _).mono ?_
    rw [g2]
    rintro e w' ⟨rfl, rfl⟩
    go_wp2
    refine bodyPost_ret (v := .tuple #[.agg #[.slice none 0 0, .slice none 0 0, .slice none 0 0], .int .i64 0, .int .i64 2]) (by simp [results, Try.results18, go_sem, hc, hz]) rfl (gaveRC_nil e2.out e3.out e1.out ?_)
    exact bset3 (bup (bal (bal (bal brefl _) _) _) hb1) (by omega) _ _ _
  obtain ⟨sid, sun, sis, sma, sra, sev, six⟩ := s2
  have hs2m := hok.sec _ (findS_mem hs2).1
  have hun := secOk_un hs2m
  simp only at hun
  have hU : unS R new = sun := by unfold unS; rw [hs2]
  have hgo : gvOk num den sun a = true := by
    unfold gvOk
    rw [g1, inB_iff.2 hun, inB_iff.2 ⟨hn0, hn1⟩, inB_iff.2 ⟨hd0, hd1⟩, g2]; rfl
  obtain ⟨g, hg⟩ : ∃ g, gvA num den sun a = g := ⟨_, rfl⟩
  obtain ⟨c, hc⟩ : ∃ c, gvB num den sun a = c := ⟨_, rfl⟩
  have hG : spG R new num den a = g := by unfold spG; rw [hU]; exact hg
  have hC : gvB num den (unS R new) a = c := by rw [hU]; exact hc
  obtain ⟨E1, hE1⟩ : ∃ E, rmE R (spM1 day old h a) = E := ⟨_, rfl⟩
  have KB := Lib.hid (fun U (hU : Below w.heap.size w U) => rfind_yes P _ _ _ R new sid sun sis sma sra sev six U (HR.out.below hU) hS hs2)
  have KG := Lib.hid (fun U => given_any old new num den sun a U)
  rw [hg, hc] at KG
  have HG := Lib.hid hG
  have HC := Lib.hid hC
  have HE1 := Lib.hid hE1
  have HOK := Lib.hid hok
  have hspE := Lib.hid (show spE R day old new num den h a = (if E1 = 0 then (if 0 < g then rmE (rmR R (spM1 day old h a)) (spM2 day new h g) else 0) else E1) by unfold spE; rw [HE0.out, if_pos rfl, g1, g2, hE1, hG]; rfl)
  have hsz : ∀ W : World, Below w.heap.size w W → RgIn (fun b => (P b ∧ b < w.heap.size) ∨ w.heap.size + 3 ≤ b) W (.slice a0 n0 c0) (.slice a1 n1 c1) (.slice a2 n2 c2) R := fun W hW => (HR.out.mono (fun b h hl => .inl ⟨h, hl⟩)).below hW
  have KD := Lib.hid (fun U (hU : Below w.heap.size w U) (hz : w.heap.size + 3 ≤ U.heap.size) => rRedeem_any (fun b => (P b ∧ b < w.heap.size) ∨ w.heap.size + 3 ≤ b) _ _ _ R day old h a U (hsz U hU) hS hH hM (fun b hb => .inr (by omega)))
  have hm1 : (⟨0, day, 3, old, h, 0, a⟩ : Mv) = spM1 day old h a := rfl
  obtain ⟨Q1, hQ1⟩ : ∃ Q, rmR R (spM1 day old h a) = Q := ⟨_, rfl⟩
  rw [hm1, hE1, hQ1] at KD
  have HQ1 := Lib.hid hQ1
  clear hs2 hs2m hU hgo hg hc hG hC hE1 hok hsz hm1 hQ1
  by_cases h1 : E1 = 0
  case neg =>
    have e1 := Lib.hid (show spE R day old new num den h a = E1 by rw [hspE.out, if_neg h1])
    have e2 := Lib.hid (show spR R day old new num den h a = ⟨[], [], []⟩ by unfold spR; rw [e1.out, if_neg h1])
    have e3 := Lib.hid (show spC R day old new num den h a = 0 by unfold spC; rw [e1.out, if_neg h1])
    have k1 : (E1 == 0) = false := by simpa using h1
    go_enter Try.func18, Try.ntmps18
    go_wp2_with fail
    refine (KA.out _ (bal (bal (bal brefl _) _) _)).mono ?_
    rintro e w1 ⟨rfl, hb1⟩
    have z1 := hb1.size
    simp only [World.size_alloc] at z1
    have BR := (hb1.block w.heap.size (by simp; omega)).trans ((heap_alloc_old _ _ (by simp; omega)).trans ((heap_alloc_old _ _ (by simp)).trans (heap_alloc_new w _)))
    have BX := (hb1.block (w.heap.size + 1) (by simp)).trans ((heap_alloc_old _ _ (by simp)).trans (heap_at (by simp)))
    have BZ := (hb1.block (w.heap.size + 1 + 1) (by simp)).trans (heap_at (by simp))
    have HB1 := Lib.hid (bup (bal (bal (bal brefl _) _) _) hb1)
    have HR1 := Lib.hid BR
    have HX1 := Lib.hid BX
    have HZ1 := Lib.hid BZ
    clear hb1 BR BX BZ
    have x0 := cell_heap (i := 0) HX1.out rfl
    have x1 := cell_heap (i := 1) HX1.out rfl
    have x2 := cell_heap (i := 2) HX1.out rfl
    have x3 := cell_heap (i := 3) HX1.out rfl
    have r0 := cell_heap (i := 0) HR1.out rfl
    have r1 := cell_heap (i := 1) HR1.out rfl
    have r2 := cell_heap (i := 2) HR1.out rfl
    go_wp2_with fail
    refine (valid_any _ _).mono ?_
    rw [g1]
    rintro e w' ⟨rfl, rfl⟩
    go_wp2_with fail
    refine (valid_any _ _).mono ?_
    rw [g2]
    rintro e w' ⟨rfl, rfl⟩
    go_wp2_with fail
    refine (KB.out _ HB1.out).mono ?_
    rintro e w2 ⟨rfl, hb2⟩
    have z2 := hb2.size
    have HB2 := Lib.hid (bal (bup HB1.out hb2) (.cells #[.int .i64 sid, .int .i64 sun, .int .i64 sis, .int .i64 sma, .int .i64 sra, .int .i64 sev, .bool six] 41))
    have HR2 := Lib.hid ((heap_alloc_old w2 (.cells #[.int .i64 sid, .int .i64 sun, .int .i64 sis, .int .i64 sma, .int .i64 sra, .int .i64 sev, .bool six] 41) (by omega)).trans ((hb2.block w.heap.size (by omega)).trans HR1.out))
    have HX2 := Lib.hid ((heap_alloc_old w2 (.cells #[.int .i64 sid, .int .i64 sun, .int .i64 sis, .int .i64 sma, .int .i64 sra, .int .i64 sev, .bool six] 41) (by omega)).trans ((hb2.block (w.heap.size + 1) (by omega)).trans HX1.out))
    have HZ2 := Lib.hid ((heap_alloc_old w2 (.cells #[.int .i64 sid, .int .i64 sun, .int .i64 sis, .int .i64 sma, .int .i64 sra, .int .i64 sev, .bool six] 41) (by omega)).trans ((hb2.block (w.heap.size + 1 + 1) (by omega)).trans HZ1.out))
    have x0 := keepB hb2 x0
    have x1 := keepB hb2 x1
    have x2 := keepB hb2 x2
    have x3 := keepB hb2 x3
    have hn1' : w.heap.size < w2.heap.size := by omega
    have hn2' : w.heap.size + 1 < w2.heap.size := by omega
    clear hb2 r0 r1 r2
    go_wp2_with fail
    refine (KG.out _).mono ?_
    rintro e w3 ⟨rfl, hb3⟩
    have z3 := hb3.size
    simp only [World.size_alloc] at z3
    have HB3 := Lib.hid (bup HB2.out hb3)
    have HR3 := Lib.hid ((hb3.block w.heap.size (by simp; omega)).trans HR2.out)
    have HX3 := Lib.hid ((hb3.block (w.heap.size + 1) (by simp; omega)).trans HX2.out)
    have HZ3 := Lib.hid ((hb3.block (w.heap.size + 1 + 1) (by simp; omega)).trans HZ2.out)
    clear hb3 x0 x1 x2 x3
    have x0 := cell_heap (i := 0) HX3.out rfl
    have r0 := cell_heap (i := 0) HR3.out rfl
    have r1 := cell_heap (i := 1) HR3.out rfl
    have r2 := cell_heap (i := 2) HR3.out rfl
    go_wp2_with fail
    refine (KD.out _ HB3.out (by omega)).mono ?_
    rintro e w4 hgv
    obtain ⟨b0, m0, d0, b1, m1, d1, b2, m2, d2, rfl, hq4, hb4⟩ := hgv.shape
    clear hgv
    have z4 := hb4.size
    have HB4 := Lib.hid (bup HB3.out hb4)
    have HZ4 := Lib.hid ((hb4.block (w.heap.size + 1 + 1) (by omega)).trans HZ3.out)
    have HX4 := Lib.hid ((hb4.block (w.heap.size + 1) (by omega)).trans HX3.out)
    have HQ4 := Lib.hid hq4
    clear hb4 hq4 x0 r0 r1 r2
    have y0 := cell_heap (i := 0) HZ4.out rfl
    have y1 := cell_heap (i := 1) HZ4.out rfl
    have y2 := cell_heap (i := 2) HZ4.out rfl
    have yf := frozen_of_row _ _ 0 _ _ HZ4.out
    have yf1 := frozen_of_row _ _ 1 _ _ HZ4.out
    have yf2 := frozen_of_row _ _ 2 _ _ HZ4.out
    have hlt4 : w.heap.size + 1 + 1 < w4.heap.size := by omega
    have hne4 : ¬ w.heap.size + 1 + 1 = w4.heap.size := by omega
    go_wp2
    refine bodyPost_ret (v := .tuple #[.agg #[.slice none 0 0, .slice none 0 0, .slice none 0 0], .int .i64 0, .int .i64 E1]) (by simp [results, Try.results18, go_sem, y0, y1, y2, hlt4, hne4]) rfl (gaveRC_nil e2.out e3.out e1.out ?_)
    exact bal (bset3 HB4.out (by omega) _ _ _) _
  subst h1
  obtain ⟨hok1, hdy1⟩ := RgOk.move (R := R) (m := spM1 day old h a) HE1.out (show 1 ≤ (3 : Int) ∧ (3 : Int) ≤ 3 by omega)
  rw [HQ1.out] at hok1
  have HOK1 := Lib.hid hok1
  clear hok1 hdy1
  by_cases hgz : 0 < g
  case neg =>
    have e1 := Lib.hid (show spE R day old new num den h a = 0 by rw [hspE.out, if_pos rfl, if_neg hgz])
    have e2 := Lib.hid (show spR R day old new num den h a = Q1 by unfold spR; rw [e1.out, if_pos rfl, HG.out, if_neg hgz, HQ1.out])
    have e3 := Lib.hid (show spC R day old new num den h a = c by unfold spC; rw [e1.out, if_pos rfl, HC.out])
    go_enter Try.func18, Try.ntmps18
    go_wp2_with fail
    refine (KA.out _ (bal (bal (bal brefl _) _) _)).mono ?_
    rintro e w1 ⟨rfl, hb1⟩
    have z1 := hb1.size
    simp only [World.size_alloc] at z1
    have BR := (hb1.block w.heap.size (by simp; omega)).trans ((heap_alloc_old _ _ (by simp; omega)).trans ((heap_alloc_old _ _ (by simp)).trans (heap_alloc_new w _)))
    have BX := (hb1.block (w.heap.size + 1) (by simp)).trans ((heap_alloc_old _ _ (by simp)).trans (heap_at (by simp)))
    have BZ := (hb1.block (w.heap.size + 1 + 1) (by simp)).trans (heap_at (by simp))
    have HB1 := Lib.hid (bup (bal (bal (bal brefl _) _) _) hb1)
    have HR1 := Lib.hid BR
    have HX1 := Lib.hid BX
    have HZ1 := Lib.hid BZ
    clear hb1 BR BX BZ
    have x0 := cell_heap (i := 0) HX1.out rfl
    have x1 := cell_heap (i := 1) HX1.out rfl
    have x2 := cell_heap (i := 2) HX1.out rfl
    have x3 := cell_heap (i := 3) HX1.out rfl
    have r0 := cell_heap (i := 0) HR1.out rfl
    have r1 := cell_heap (i := 1) HR1.out rfl
    have r2 := cell_heap (i := 2) HR1.out rfl
    go_wp2_with fail
    refine (valid_any _ _).mono ?_
    rw [g1]
    rintro e w' ⟨rfl, rfl⟩
    go_wp2_with fail
    refine (valid_any _ _).mono ?_
    rw [g2]
    rintro e w' ⟨rfl, rfl⟩
    go_wp2_with fail
    refine (KB.out _ HB1.out).mono ?_
    rintro e w2 ⟨rfl, hb2⟩
    have z2 := hb2.size
    have HB2 := Lib.hid (bal (bup HB1.out hb2) (.cells #[.int .i64 sid, .int .i64 sun, .int .i64 sis, .int .i64 sma, .int .i64 sra, .int .i64 sev, .bool six] 41))
    have HR2 := Lib.hid ((heap_alloc_old w2 (.cells #[.int .i64 sid, .int .i64 sun, .int .i64 sis, .int .i64 sma, .int .i64 sra, .int .i64 sev, .bool six] 41) (by omega)).trans ((hb2.block w.heap.size (by omega)).trans HR1.out))
    have HX2 := Lib.hid ((heap_alloc_old w2 (.cells #[.int .i64 sid, .int .i64 sun, .int .i64 sis, .int .i64 sma, .int .i64 sra, .int .i64 sev, .bool six] 41) (by omega)).trans ((hb2.block (w.heap.size + 1) (by omega)).trans HX1.out))
    have HZ2 := Lib.hid ((heap_alloc_old w2 (.cells #[.int .i64 sid, .int .i64 sun, .int .i64 sis, .int .i64 sma, .int .i64 sra, .int .i64 sev, .bool six] 41) (by omega)).trans ((hb2.block (w.heap.size + 1 + 1) (by omega)).trans HZ1.out))
    have x0 := keepB hb2 x0
    have x1 := keepB hb2 x1
    have x2 := keepB hb2 x2
    have x3 := keepB hb2 x3
    have hn1' : w.heap.size < w2.heap.size := by omega
    have hn2' : w.heap.size + 1 < w2.heap.size := by omega
    clear hb2 r0 r1 r2
    go_wp2_with fail
    refine (KG.out _).mono ?_
    rintro e w3 ⟨rfl, hb3⟩
    have z3 := hb3.size
    simp only [World.size_alloc] at z3
    have HB3 := Lib.hid (bup HB2.out hb3)
    have HR3 := Lib.hid ((hb3.block w.heap.size (by simp; omega)).trans HR2.out)
    have HX3 := Lib.hid ((hb3.block (w.heap.size + 1) (by simp; omega)).trans HX2.out)
    have HZ3 := Lib.hid ((hb3.block (w.heap.size + 1 + 1) (by simp; omega)).trans HZ2.out)
    clear hb3 x0 x1 x2 x3
    have x0 := cell_heap (i := 0) HX3.out rfl
    have r0 := cell_heap (i := 0) HR3.out rfl
    have r1 := cell_heap (i := 1) HR3.out rfl
    have r2 := cell_heap (i := 2) HR3.out rfl
    go_wp2_with fail
    refine (KD.out _ HB3.out (by omega)).mono ?_
    rintro e w4 hgv
    obtain ⟨b0, m0, d0, b1, m1, d1, b2, m2, d2, rfl, hq4, hb4⟩ := hgv.shape
    clear hgv
    have z4 := hb4.size
    have HB4 := Lib.hid (bup HB3.out hb4)
    have HZ4 := Lib.hid ((hb4.block (w.heap.size + 1 + 1) (by omega)).trans HZ3.out)
    have HX4 := Lib.hid ((hb4.block (w.heap.size + 1) (by omega)).trans HX3.out)
    have HQ4 := Lib.hid hq4
    clear hb4 hq4 x0 r0 r1 r2
    have y0 := cell_heap (i := 0) HZ4.out rfl
    have y1 := cell_heap (i := 1) HZ4.out rfl
    have y2 := cell_heap (i := 2) HZ4.out rfl
    have yf := frozen_of_row _ _ 0 _ _ HZ4.out
    have yf1 := frozen_of_row _ _ 1 _ _ HZ4.out
    have yf2 := frozen_of_row _ _ 2 _ _ HZ4.out
    have hlt4 : w.heap.size + 1 + 1 < w4.heap.size := by omega
    have hne4 : ¬ w.heap.size + 1 + 1 = w4.heap.size := by omega
    go_wp2
    rw [e1.out, e2.out, e3.out]
    refine bodyPost_ret (v := .tuple #[.agg #[.slice b0 m0 d0, .slice b1 m1 d1, .slice b2 m2 d2], .int .i64 c, .int .i64 0]) (by simp [results, Try.results18, go_sem, y0, y1, y2, hlt4, hne4]) rfl ⟨_, _, _, rfl, ?_, bal (bset3 HB4.out (by omega) _ _ _) _⟩
    exact ((HQ4.out.set3 (b := w.heap.size + 1 + 1) (fun k hk => by omega)).below (bal brefl _)).mono (fun b h _ => h.elim (fun h => h.1) (fun h => hP b (by omega)))
  obtain ⟨E2, hE2⟩ : ∃ E, rmE Q1 (spM2 day new h g) = E := ⟨_, rfl⟩
  obtain ⟨Q2, hQ2⟩ : ∃ Q, rmR Q1 (spM2 day new h g) = Q := ⟨_, rfl⟩
  have KI := Lib.hid (fun U (x : Nat) b0 m0 d0 b1 m1 d1 b2 m2 d2 (hr : RgIn (fun b => (P b ∧ b < w.heap.size) ∨ (w.heap.size + 3 ≤ b ∧ b ≠ x)) U (.slice b0 m0 d0) (.slice b1 m1 d1) (.slice b2 m2 d2) Q1) (hz : w.heap.size + 3 ≤ U.heap.size) (hx : x < U.heap.size) => rIssue_any (fun b => (P b ∧ b < w.heap.size) ∨ (w.heap.size + 3 ≤ b ∧ b ≠ x)) _ _ _ Q1 day new h g U hr (ok_len HOK1.out).1 (ok_len HOK1.out).2.1 (ok_len HOK1.out).2.2 (fun b hb => .inr (by omega)))
  have hm2 : (⟨0, day, 1, new, 0, h, g⟩ : Mv) = spM2 day new h g := rfl
  rw [hm2, hE2, hQ2] at KI
  have e1 := Lib.hid (show spE R day old new num den h a = E2 by rw [hspE.out, if_pos rfl, if_pos hgz, HQ1.out, hE2])
  have HQ2 := Lib.hid hQ2
  clear hE2 hQ2 hm2
  have e2 := Lib.hid (show spR R day old new num den h a = if E2 = 0 then Q2 else ⟨[], [], []⟩ by unfold spR; rw [e1.out, HG.out, if_pos hgz, HQ1.out, HQ2.out])
  have e3 := Lib.hid (show spC R day old new num den h a = if E2 = 0 then c else 0 by unfold spC; rw [e1.out, HC.out])
  go_enter Try.func18, Try.ntmps18
  go_wp2_with fail
  refine (KA.out _ (bal (bal (bal brefl _) _) _)).mono ?_
  rintro e w1 ⟨rfl, hb1⟩
  have z1 := hb1.size
  simp only [World.size_alloc] at z1
  have BR := (hb1.block w.heap.size (by simp; omega)).trans ((heap_alloc_old _ _ (by simp; omega)).trans ((heap_alloc_old _ _ (by simp)).trans (heap_alloc_new w _)))
  have BX := (hb1.block (w.heap.size + 1) (by simp)).trans ((heap_alloc_old _ _ (by simp)).trans (heap_at (by simp)))
  have BZ := (hb1.block (w.heap.size + 1 + 1) (by simp)).trans (heap_at (by simp))
  have HB1 := Lib.hid (bup (bal (bal (bal brefl _) _) _) hb1)
  have HR1 := Lib.hid BR
  have HX1 := Lib.hid BX
  have HZ1 := Lib.hid BZ
  clear hb1 BR BX BZ
  have x0 := cell_heap (i := 0) HX1.out rfl
  have x1 := cell_heap (i := 1) HX1.out rfl
  have x2 := cell_heap (i := 2) HX1.out rfl
  have x3 := cell_heap (i := 3) HX1.out rfl
  have r0 := cell_heap (i := 0) HR1.out rfl
  have r1 := cell_heap (i := 1) HR1.out rfl
  have r2 := cell_heap (i := 2) HR1.out rfl
  go_wp2_with fail
  refine (valid_any _ _).mono ?_
  rw [g1]
  rintro e w' ⟨rfl, rfl⟩
  go_wp2_with fail
  refine (valid_any _ _).mono ?_
  rw [g2]
  rintro e w' ⟨rfl, rfl⟩
  go_wp2_with fail
  refine (KB.out _ HB1.out).mono ?_
  rintro e w2 ⟨rfl, hb2⟩
  have z2 := hb2.size
  have HB2 := Lib.hid (bal (bup HB1.out hb2) (.cells #[.int .i64 sid, .int .i64 sun, .int .i64 sis, .int .i64 sma, .int .i64 sra, .int .i64 sev, .bool six] 41))
  have HR2 := Lib.hid ((heap_alloc_old w2 (.cells #[.int .i64 sid, .int .i64 sun, .int .i64 sis, .int .i64 sma, .int .i64 sra, .int .i64 sev, .bool six] 41) (by omega)).trans ((hb2.block w.heap.size (by omega)).trans HR1.out))
  have HX2 := Lib.hid ((heap_alloc_old w2 (.cells #[.int .i64 sid, .int .i64 sun, .int .i64 sis, .int .i64 sma, .int .i64 sra, .int .i64 sev, .bool six] 41) (by omega)).trans ((hb2.block (w.heap.size + 1) (by omega)).trans HX1.out))
  have HZ2 := Lib.hid ((heap_alloc_old w2 (.cells #[.int .i64 sid, .int .i64 sun, .int .i64 sis, .int .i64 sma, .int .i64 sra, .int .i64 sev, .bool six] 41) (by omega)).trans ((hb2.block (w.heap.size + 1 + 1) (by omega)).trans HZ1.out))
  have x0 := keepB hb2 x0
  have x1 := keepB hb2 x1
  have x2 := keepB hb2 x2
  have x3 := keepB hb2 x3
  have hn1' : w.heap.size < w2.heap.size := by omega
  have hn2' : w.heap.size + 1 < w2.heap.size := by omega
  clear hb2 r0 r1 r2
  go_wp2_with fail
  refine (KG.out _).mono ?_
  rintro e w3 ⟨rfl, hb3⟩
  have z3 := hb3.size
  simp only [World.size_alloc] at z3
  have HB3 := Lib.hid (bup HB2.out hb3)
  have HR3 := Lib.hid ((hb3.block w.heap.size (by simp; omega)).trans HR2.out)
  have HX3 := Lib.hid ((hb3.block (w.heap.size + 1) (by simp; omega)).trans HX2.out)
  have HZ3 := Lib.hid ((hb3.block (w.heap.size + 1 + 1) (by simp; omega)).trans HZ2.out)
  clear hb3 x0 x1 x2 x3
  have x0 := cell_heap (i := 0) HX3.out rfl
  have r0 := cell_heap (i := 0) HR3.out rfl
  have r1 := cell_heap (i := 1) HR3.out rfl
  have r2 := cell_heap (i := 2) HR3.out rfl
  go_wp2_with fail
  refine (KD.out _ HB3.out (by omega)).mono ?_
  rintro e w4 hgv
  obtain ⟨b0, m0, d0, b1, m1, d1, b2, m2, d2, rfl, hq4, hb4⟩ := hgv.shape
  clear hgv
  have z4 := hb4.size
  have HB4 := Lib.hid (bup HB3.out hb4)
  have HZ4 := Lib.hid ((hb4.block (w.heap.size + 1 + 1) (by omega)).trans HZ3.out)
  have HX4 := Lib.hid ((hb4.block (w.heap.size + 1) (by omega)).trans HX3.out)
  have HQ4 := Lib.hid hq4
  clear hb4 hq4 x0 r0 r1 r2
  have x1 := keepA (o := .cells #[.slice b0 m0 d0, .slice b1 m1 d1, .slice b2 m2 d2] 29) (cell_heap (i := 1) HX4.out rfl)
  have hne4 : ¬ w.heap.size + 1 = w4.heap.size := by omega
  have hlt4 : w.heap.size + 1 < w4.heap.size := by omega
  have x1' := cell_heap (i := 1) HX4.out rfl
  have HQ4' := Lib.hid ((HQ4.out.mono (Q := fun b => (P b ∧ b < w.heap.size) ∨ (w.heap.size + 3 ≤ b ∧ b ≠ w4.heap.size)) (fun b h hl => h.elim .inl (fun h => .inr ⟨h, by omega⟩))).below (bal brefl (.cells #[.slice b0 m0 d0, .slice b1 m1 d1, .slice b2 m2 d2] 29)))
  have HZ4' := Lib.hid ((heap_alloc_old w4 (.cells #[.slice b0 m0 d0, .slice b1 m1 d1, .slice b2 m2 d2] 29) (by omega)).trans HZ4.out)
  have HT4 := Lib.hid (heap_alloc_new w4 (.cells #[.slice b0 m0 d0, .slice b1 m1 d1, .slice b2 m2 d2] 29))
  go_wp2_with fail
  refine (KI.out _ w4.heap.size b0 m0 d0 b1 m1 d1 b2 m2 d2 HQ4'.out (by simp; omega) (by simp)).mono ?_
  rintro e w5 hgv
  obtain ⟨u0, i0, j0, u1, i1, j1, u2, i2, j2, rfl, hq5, hb5⟩ := hgv.shape
  clear hgv x1 x1'
  have z5 := hb5.size
  simp only [World.size_alloc] at z5
  have HB5 := Lib.hid (bup (bal HB4.out _) hb5)
  have hT5 := (hb5.block w4.heap.size (by simp)).trans HT4.out
  have hZ5 := (hb5.block (w.heap.size + 1 + 1) (by simp; omega)).trans HZ4'.out
  have HQ5 := Lib.hid hq5
  clear hb5 hq5
  have t0 := cell_heap (i := 0) hT5 rfl
  have t1 := cell_heap (i := 1) hT5 rfl
  have t2 := cell_heap (i := 2) hT5 rfl
  have tf0 := frozen_of_row _ _ 0 _ _ hT5
  have tf1 := frozen_of_row _ _ 1 _ _ hT5
  have tf2 := frozen_of_row _ _ 2 _ _ hT5
  have y0 := cell_heap (i := 0) hZ5 rfl
  have y1 := cell_heap (i := 1) hZ5 rfl
  have y2 := cell_heap (i := 2) hZ5 rfl
  have yf := frozen_of_row _ _ 0 _ _ hZ5
  have yf1 := frozen_of_row _ _ 1 _ _ hZ5
  have yf2 := frozen_of_row _ _ 2 _ _ hZ5
  have hne5 : ¬ w.heap.size + 1 + 1 = w4.heap.size := by omega
  have hne6 : ¬ w4.heap.size = w.heap.size + 1 + 1 := by omega
  clear hT5 hZ5
  by_cases h2 : E2 = 0
  · subst h2
    have f2 := e2.out
    have f3 := e3.out
    rw [if_pos rfl] at f2 f3
    have F2 := Lib.hid f2
    have F3 := Lib.hid f3
    clear f2 f3
    go_wp2
    rw [e1.out, F2.out, F3.out]
    refine bodyPost_ret (v := .tuple #[.agg #[.slice u0 i0 j0, .slice u1 i1 j1, .slice u2 i2 j2], .int .i64 c, .int .i64 0]) (by simp [results, Try.results18, go_sem, y0, y1, y2, t0, t1, t2, hne5, hne6]) rfl ⟨_, _, _, rfl, ?_, bset3 (bset3 HB5.out (by omega) _ _ _) (by omega) _ _ _⟩
    exact ((HQ5.out.set3 (b := w4.heap.size) (fun k hk => by omega)).set3 (b := w.heap.size + 1 + 1) (fun k hk => by omega)).mono (fun b h _ => h.elim (fun h => h.1) (fun h => hP b (by omega)))
  · have k1 : (E2 == 0) = false := by simpa using h2
    have f2 := e2.out
    have f3 := e3.out
    rw [if_neg h2] at f2 f3
    have F2 := Lib.hid f2
    have F3 := Lib.hid f3
    clear f2 f3
    go_wp2
    refine bodyPost_ret (v := .tuple #[.agg #[.slice none 0 0, .slice none 0 0, .slice none 0 0], .int .i64 0, .int .i64 E2]) (by simp [results, Try.results18, go_sem, y0, y1, y2, t0, t1, t2, hne5, hne6]) rfl (gaveRC_nil F2.out F3.out e1.out ?_)
    exact bset3 (bset3 HB5.out (by omega) _ _ _) (by omega) _ _ _
end Go.Proofs.Ytmhglabcnimegaa
