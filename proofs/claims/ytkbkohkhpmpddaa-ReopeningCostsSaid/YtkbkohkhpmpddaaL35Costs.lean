/- ReopeningCosts. -/
import Derived.Test.YtkbkohkhpmpddaaCost
import Derived.Test.YtkbkohkhpmpddaaL34Accr
import Derived.Deep.RegionHeld3
namespace Go.Proofs.Ytkbkohkhpmpddaa
open Go.RowKit
set_option linter.unusedVariables false

set_option maxHeartbeats 400000 in
theorem sane35_any (w : World) : Calls Try.prog 28 #[] w fun e w' => e = .returned (.bool true) ∧ Below w.heap.size w w' := by
  have D := Lib.hid (show gvA 3 2 400 1000 = 1200 ∧ gvB 3 2 400 1000 = 300 by decide)
  go_enter Try.func28, Try.ntmps28
  go_wp2_with fail
  refine (given_any _ _ _ _ _ _ _).mono ?_
  rw [D.out.1, D.out.2]
  rintro e w1 ⟨rfl, hb1⟩
  go_wp2
  go_ret
  exact ⟨rfl, hb1⟩

section
variable {un is ma ra ev : Int}
/-- a cost in the first days -/
def coF (is ra day a p : Int) : Int := (a * p + 50000) / 100000 + (if ra = 0 then 0 else (a * ra * (day - is) + 18000000) / 36000000)
theorem co_first (hl : SecLike un is ma ra ev) {day a p : Int} (d0 : is ≤ day) (d1 : day ≤ is + 20) (a0 : 1000 ≤ a) (a1 : a ≤ 70000) (p0 : 90000 ≤ p) (p1 : p ≤ 111000) :
    coE 1 un is ma ra ev day a p = 0 ∧ coV 1 un is ma ra ev day a p = coF is ra day a p := by
  have hs := secLike_ok hl
  obtain ⟨i0, i1, m0, m1, r0, r1, v0, v1⟩ := secLike_bd hl
  have hlast : lastD 1 un is ma ra ev day = is := by
    rw [lastD_yes hs d0 (by omega)]
    split
    · rfl
    · rw [Int.emod_eq_of_lt (by omega) (by omega)]; omega
  obtain ⟨q0, q1⟩ := mul_bd (show 0 ≤ a by omega) a1 (show 0 ≤ p by omega) p1
  have ok : pyOk a p = true := pyOk_iff.2 ⟨⟨by omega, by omega⟩, by omega, by omega⟩
  have hck : inB ((a * p + 50000) / 100000) 0 1000000000000 = true := inB_iff.2 (by omega)
  have e1 : pyE a p = 0 := by simp [pyE, ok, ckE, hck]
  have e2 : pyV a p = (a * p + 50000) / 100000 := by simp [pyV, ok, ckV, hck]
  have e3 := accE_ok (a := a) (d := day) hs (by omega) (by omega) d0 (by omega)
  have e4 := accN_eq (a := a) (d := day) hs (by omega) (by omega) d0 (by omega)
  rw [hlast] at e4
  have hb := accN_bd 1 un is ma ra ev true a day
  have hsb := secB_iff.2 hs
  have hv : inB (pyV a p + accN 1 un is ma ra ev a day) 0 1000000000000 = true := inB_iff.2 (by omega)
  have e5 : coE 1 un is ma ra ev day a p = 0 := by
    unfold coE
    rw [hsb, if_pos rfl, if_pos e1, if_pos e3.1, hv, if_pos rfl]
  refine ⟨e5, ?_⟩
  unfold coV coF
  rw [if_pos e5, e2, e4]
theorem coF_bd {day a p : Int} (r0 : 0 ≤ ra) (r1 : ra ≤ 5000) (d0 : is ≤ day) (d1 : day ≤ is + 20) (a0 : 1000 ≤ a) (a1 : a ≤ 70000) (p0 : 90000 ≤ p) (p1 : p ≤ 111000) : 0 ≤ coF is ra day a p ∧ coF is ra day a p ≤ 1000000 := by
  obtain ⟨q0, q1⟩ := mul_bd (show 0 ≤ a by omega) a1 (show 0 ≤ p by omega) p1
  obtain ⟨s0, s1⟩ := mul_bd (show 0 ≤ a by omega) a1 r0 r1
  obtain ⟨t0, t1⟩ := mul_bd s0 s1 (show 0 ≤ day - is by omega) (show day - is ≤ 20 by omega)
  unfold coF
  split <;> omega
theorem coF_mono {day day' a a' p p' : Int} (r0 : 0 ≤ ra) (d0 : is ≤ day) (a0 : 0 ≤ a) (p0 : 0 ≤ p) (h1 : day ≤ day') (h2 : a ≤ a') (h3 : p ≤ p') : coF is ra day a p ≤ coF is ra day' a' p' := by
  have q : a * p ≤ a' * p' := Int.mul_le_mul h2 h3 p0 (by omega)
  have s : a * ra ≤ a' * ra := Int.mul_le_mul_of_nonneg_right h2 r0
  have s0 : 0 ≤ a * ra := Int.mul_nonneg a0 r0
  have t : a * ra * (day - is) ≤ a' * ra * (day' - is) := Int.mul_le_mul s (by omega) (by omega) (by omega)
  unfold coF
  split <;> omega
end

theorem box7_grown {w w' : World} {B sb : Nat} {un is ma ra ev : Int} {ix : Bool} (h : w.cell? ⟨B, 0, none⟩ = some (.int .i64 1) ∧ w.cell? ⟨B, 1, none⟩ = some (.int .i64 un) ∧ w.cell? ⟨B, 2, none⟩ = some (.int .i64 is) ∧ w.cell? ⟨B, 3, none⟩ = some (.int .i64 ma) ∧ w.cell? ⟨B, 4, none⟩ = some (.int .i64 ra) ∧ w.cell? ⟨B, 5, none⟩ = some (.int .i64 ev) ∧ w.cell? ⟨B, 6, none⟩ = some (.bool ix)) (hg : w.grownBy w' (some sb)) (hne : B ≠ sb) : w'.cell? ⟨B, 0, none⟩ = some (.int .i64 1) ∧ w'.cell? ⟨B, 1, none⟩ = some (.int .i64 un) ∧ w'.cell? ⟨B, 2, none⟩ = some (.int .i64 is) ∧ w'.cell? ⟨B, 3, none⟩ = some (.int .i64 ma) ∧ w'.cell? ⟨B, 4, none⟩ = some (.int .i64 ra) ∧ w'.cell? ⟨B, 5, none⟩ = some (.int .i64 ev) ∧ w'.cell? ⟨B, 6, none⟩ = some (.bool ix) := by
  obtain ⟨h0, h1, h2, h3, h4, h5, h6⟩ := h
  have q : some B ≠ some sb := by simpa using hne
  exact ⟨hg.cell h0 q, hg.cell h1 q, hg.cell h2 q, hg.cell h3 q, hg.cell h4 q, hg.cell h5 q, hg.cell h6 q⟩
theorem box7_below {w w' : World} {B : Nat} {un is ma ra ev : Int} {ix : Bool} (h : w.cell? ⟨B, 0, none⟩ = some (.int .i64 1) ∧ w.cell? ⟨B, 1, none⟩ = some (.int .i64 un) ∧ w.cell? ⟨B, 2, none⟩ = some (.int .i64 is) ∧ w.cell? ⟨B, 3, none⟩ = some (.int .i64 ma) ∧ w.cell? ⟨B, 4, none⟩ = some (.int .i64 ra) ∧ w.cell? ⟨B, 5, none⟩ = some (.int .i64 ev) ∧ w.cell? ⟨B, 6, none⟩ = some (.bool ix)) (hb : Below w.heap.size w w') : w'.cell? ⟨B, 0, none⟩ = some (.int .i64 1) ∧ w'.cell? ⟨B, 1, none⟩ = some (.int .i64 un) ∧ w'.cell? ⟨B, 2, none⟩ = some (.int .i64 is) ∧ w'.cell? ⟨B, 3, none⟩ = some (.int .i64 ma) ∧ w'.cell? ⟨B, 4, none⟩ = some (.int .i64 ra) ∧ w'.cell? ⟨B, 5, none⟩ = some (.int .i64 ev) ∧ w'.cell? ⟨B, 6, none⟩ = some (.bool ix) := by
  have q := World.block_lt_of_cell? w _ h.1
  simp only at q
  obtain ⟨h0, h1, h2, h3, h4, h5, h6⟩ := h
  exact ⟨(hb.cell (by exact q)).trans h0, (hb.cell (by exact q)).trans h1, (hb.cell (by exact q)).trans h2, (hb.cell (by exact q)).trans h3, (hb.cell (by exact q)).trans h4, (hb.cell (by exact q)).trans h5, (hb.cell (by exact q)).trans h6⟩
set_option maxHeartbeats 2000000 in
set_option maxRecDepth 100000 in
theorem costs_walk (a0 : Option Addr) (len0 cap0 : Nat) (a b : Int) (w : World) (h1 : len0 ≤ cap0) (h2 : cap0 ≤ maxLen) (hz : len0 = 0 ∨ ∃ b off, a0 = some ⟨b, off, none⟩ ∧ ∀ i, i < len0 → ∃ z : Int, w.cell? ⟨b, off + i, none⟩ = some (.int .i64 z)) (x0 : 0 ≤ a) (x1 : a ≤ 65535) (y0 : 0 ≤ b) (y1 : b ≤ 65535) :
    Calls Try.prog 8 #[.slice a0 len0 cap0, .int .u16 a, .int .u16 b] w fun e w' => e = .returned (.bool true) ∧ Below w.heap.size w w' := by
  go_enter Try.func8, Try.ntmps8
  go_wp2_with fail
  refine (new_any a0 len0 cap0 w h1 h2 hz).mono ?_
  rintro e w1 ⟨sb, rfl, hsb, hS1, hB1⟩
  clear hz
  go_wp2_with fail
  refine (srcsec_any sb 1 _ hS1).mono ?_
  rintro e w2 ⟨un, is, ma, ra, ev, ix, hl, rfl, hS2, hG2⟩
  have hB2 : Below w.heap.size w w2 := hB1.trans (below_of_grown hG2 hsb hB1.size)
  obtain ⟨i0, i1, m0, m1, r0, r1, v0, v1⟩ := secLike_bd hl
  have HL := Lib.hid hl
  have z2 := hB2.size
  clear hl hB1 hG2
  obtain ⟨day, hday⟩ : ∃ day, is + a % 20 = day := ⟨_, rfl⟩
  obtain ⟨am, ham⟩ : ∃ am, 1000 + b = am := ⟨_, rfl⟩
  have d0 : is ≤ day := by omega
  have d1 : day ≤ is + 19 := by omega
  have b0 : 1000 ≤ am := by omega
  have b1 : am ≤ 66535 := by omega
  have b2 : 0 ≤ a % 20 := by omega
  have b3 : a % 20 < 20 := by omega
  go_wp2_with fail
  refine (n_any sb _ _ (srcOk_alloc hS2 _) (by omega)).mono ?_
  rintro e w3 ⟨pr, ⟨p0, p1⟩, rfl, hS3, hG3⟩
  have hlt := srcOk_lt hS2
  have p2 : pr ≤ 19999 := by omega
  have z3 : w2.heap.size < w3.heap.size := by have := hG3.size; simp at this; omega
  have k0 := box_cell hG3 hlt 0 rfl
  have k1 := box_cell hG3 hlt 1 rfl
  have k2 := box_cell hG3 hlt 2 rfl
  have k3 := box_cell hG3 hlt 3 rfl
  have k4 := box_cell hG3 hlt 4 rfl
  have k5 := box_cell hG3 hlt 5 rfl
  have k6 := box_cell hG3 hlt 6 rfl
  have hB3 : Below w.heap.size w w3 := (hB2.alloc hB2.size _).trans (below_of_grown hG3 hsb (by simp; omega))
  clear hG3 hB2 p1
  obtain ⟨pc, hpc⟩ : ∃ pc, 90000 + pr = pc := ⟨_, rfl⟩
  have p3 : 90000 ≤ pc := by omega
  have p4 : pc ≤ 109999 := by omega
  obtain ⟨u1, u2⟩ := co_first HL.out d0 (show day ≤ is + 20 by omega) b0 (show am ≤ 70000 by omega) p3 (show pc ≤ 111000 by omega)
  obtain ⟨t1, t2⟩ := co_first HL.out (show is ≤ day + 1 by omega) (show day + 1 ≤ is + 20 by omega) b0 (show am ≤ 70000 by omega) p3 (show pc ≤ 111000 by omega)
  have g1 := coF_mono (ra := ra) (is := is) (day' := day + 1) (a' := am) (p' := pc) r0 d0 (show 0 ≤ am by omega) (show 0 ≤ pc by omega) (by omega) (Int.le_refl _) (Int.le_refl _)
  obtain ⟨n, hn⟩ : ∃ n, coF is ra day am pc = n := ⟨_, rfl⟩
  obtain ⟨m, hm⟩ : ∃ m, coF is ra (day + 1) am pc = m := ⟨_, rfl⟩
  rw [hn] at u2 g1
  rw [hm] at t2 g1
  have U := Lib.hid (And.intro u1 (And.intro u2 (And.intro t1 t2)))
  have HN := Lib.hid hn
  clear u1 u2 t1 t2 hn hm
  have hb7 : w3.cell? ⟨w2.heap.size, 0, none⟩ = some (.int .i64 1) ∧ w3.cell? ⟨w2.heap.size, 1, none⟩ = some (.int .i64 un) ∧ w3.cell? ⟨w2.heap.size, 2, none⟩ = some (.int .i64 is) ∧ w3.cell? ⟨w2.heap.size, 3, none⟩ = some (.int .i64 ma) ∧ w3.cell? ⟨w2.heap.size, 4, none⟩ = some (.int .i64 ra) ∧ w3.cell? ⟨w2.heap.size, 5, none⟩ = some (.int .i64 ev) ∧ w3.cell? ⟨w2.heap.size, 6, none⟩ = some (.bool ix) := ⟨k0, k1, k2, k3, k4, k5, k6⟩
  have HB7 := Lib.hid hb7
  clear hb7
  go_wp2_with fail
  refine (cost_any _ _ _ _ _ _ _ _ _ _ _).mono ?_
  rw [U.out.1, U.out.2.1]
  rintro e w4 ⟨rfl, hb4⟩
  obtain ⟨c0, c1, c2, c3, c4, c5, c6⟩ := box7_below HB7.out hb4
  have z4 := hb4.size
  clear hday ham hpc b2 b3 k0 k1 k2 k3 k4 k5 k6
  go_wp2_with fail
  refine (cost_any _ _ _ _ _ _ _ _ _ _ _).mono ?_
  rw [U.out.2.2.1, U.out.2.2.2]
  rintro e w5 ⟨rfl, hb5⟩
  have HC5 := Lib.hid (box7_below (box7_below HB7.out hb4) hb5)
  obtain ⟨e0, e1, e2, e3, e4, e5, e6⟩ := HC5.out
  have z5 := hb5.size
  have hB5 := below_up' (below_up' hB3 hb4) hb5
  have HS5 := Lib.hid (srcOk_below hS3 (hb4.trans (hb5.mono hb4.size)) (by omega))
  clear hb4 hb5 c0 c1 c2 c3 c4 c5 c6 hB3 hS3 hS2 hS1
  go_wp2_with fail
  go_region_held3 (fun w' => w'.cell? ⟨w2.heap.size, 0, none⟩ = some (.int .i64 1) ∧ w'.cell? ⟨w2.heap.size, 1, none⟩ = some (.int .i64 un) ∧ w'.cell? ⟨w2.heap.size, 2, none⟩ = some (.int .i64 is) ∧ w'.cell? ⟨w2.heap.size, 3, none⟩ = some (.int .i64 ma) ∧ w'.cell? ⟨w2.heap.size, 4, none⟩ = some (.int .i64 ra) ∧ w'.cell? ⟨w2.heap.size, 5, none⟩ = some (.int .i64 ev) ∧ w'.cell? ⟨w2.heap.size, 6, none⟩ = some (.bool ix)) (first | exact box7_grown HC5.out hG6 (by omega) | exact box7_below (box7_grown HC5.out hG6 (by omega)) hb7 | go_keep)
    (first | (go_at_call 26; refine (n_any sb 500 _ ?_ (by decide)).mono ?_; exact srcOk_drewN HS5.out 1; rintro e w6 ⟨t, ⟨t0, t1⟩, rfl, hS6, hG6'⟩; have hG6 := grownBy_undrew hG6'; have hu : IntKind.i64.wrap (pc + t) = pc + t := IntWalk.i64_in _ (by omega)) | (go_at_call 27; refine (cost_any _ _ _ _ _ _ _ _ _ _ _).mono ?_; rintro e w7 ⟨rfl, hb7⟩))
  have t2 : t ≤ 499 := by omega
  obtain ⟨x1, x2⟩ := co_first HL.out d0 (show day ≤ is + 20 by omega) b0 (show am ≤ 70000 by omega) (show 90000 ≤ pc + t by omega) (show pc + t ≤ 111000 by omega)
  have g2 := coF_mono (ra := ra) (is := is) (day' := day) (a' := am) (p' := pc + t) r0 d0 (show 0 ≤ am by omega) (show 0 ≤ pc by omega) (Int.le_refl _) (Int.le_refl _) (show pc ≤ pc + t by omega)
  rw [HN.out] at g2
  obtain ⟨p, hp⟩ : ∃ p, coF is ra day am (pc + t) = p := ⟨_, rfl⟩
  rw [hp] at g2 x2
  try rw [hu]
  rw [x1, x2]
  have HC7 := Lib.hid (box7_below (box7_grown HC5.out hG6 (by omega)) hb7)
  have z6 := hG6.size
  have z7 := hb7.size
  have HS7 := Lib.hid (srcOk_below hS6 hb7 (srcOk_lt hS6))
  have hB7 := below_up' (hB5.trans (below_of_grown hG6 hsb (by omega))) hb7
  clear x1 x2 hp hu hG6 hG6' hb7 hS6 t0 t1 t2 hB5 e0 e1 e2 e3 e4 e5 e6
  obtain ⟨e0, e1, e2, e3, e4, e5, e6⟩ := HC7.out
  go_wp2_with fail
  go_region_held3 (fun w' => w'.cell? ⟨w2.heap.size, 0, none⟩ = some (.int .i64 1) ∧ w'.cell? ⟨w2.heap.size, 1, none⟩ = some (.int .i64 un) ∧ w'.cell? ⟨w2.heap.size, 2, none⟩ = some (.int .i64 is) ∧ w'.cell? ⟨w2.heap.size, 3, none⟩ = some (.int .i64 ma) ∧ w'.cell? ⟨w2.heap.size, 4, none⟩ = some (.int .i64 ra) ∧ w'.cell? ⟨w2.heap.size, 5, none⟩ = some (.int .i64 ev) ∧ w'.cell? ⟨w2.heap.size, 6, none⟩ = some (.bool ix)) (first | exact box7_grown HC7.out hG8 (by omega) | exact box7_below (box7_grown HC7.out hG8 (by omega)) hb9 | go_keep)
    (first | (go_at_call 26; refine (n_any sb 500 _ ?_ (by decide)).mono ?_; exact srcOk_drewN HS7.out 1; rintro e w8 ⟨s, ⟨s0, s1⟩, rfl, hS8, hG8'⟩; have hG8 := grownBy_undrew hG8'; have hu : IntKind.i64.wrap (am + s) = am + s := IntWalk.i64_in _ (by omega)) | (go_at_call 27; refine (cost_any _ _ _ _ _ _ _ _ _ _ _).mono ?_; rintro e w9 ⟨rfl, hb9⟩))
  have s2 : s ≤ 499 := by omega
  obtain ⟨x1, x2⟩ := co_first HL.out d0 (show day ≤ is + 20 by omega) (show 1000 ≤ am + s by omega) (show am + s ≤ 70000 by omega) p3 (show pc ≤ 111000 by omega)
  have g3 := coF_mono (ra := ra) (is := is) (day' := day) (a' := am + s) (p' := pc) r0 d0 (show 0 ≤ am by omega) (show 0 ≤ pc by omega) (Int.le_refl _) (show am ≤ am + s by omega) (Int.le_refl _)
  rw [HN.out] at g3
  obtain ⟨q, hq⟩ : ∃ q, coF is ra day (am + s) pc = q := ⟨_, rfl⟩
  rw [hq] at g3 x2
  try rw [hu]
  rw [x1, x2]
  have z8 := hG8.size
  have hB9 := below_up' (hB7.trans (below_of_grown hG8 hsb (by omega))) hb9
  clear x1 x2 hq hu hG8 hG8' hb9 hS8 s0 s1 s2 hB7 e0 e1 e2 e3 e4 e5 e6
  go_wp2_with (go_at_call 28; refine (sane35_any _).mono ?_; rintro e w10 ⟨rfl, hb10⟩)
  go_ret
  exact ⟨rfl, below_up' hB9 (by assumption)⟩
end Go.Proofs.Ytkbkohkhpmpddaa
