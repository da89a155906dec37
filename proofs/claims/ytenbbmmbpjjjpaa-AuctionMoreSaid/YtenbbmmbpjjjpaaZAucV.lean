/- Auction: Pay, Cash; Same, Equal and Check at equal results. -/
import Derived.Test.YtenbbmmbpjjjpaaZL32O
import Derived.BigQuiet
namespace Go.Proofs.Ytenbbmmbpjjjpaa
open Go.RowKit
set_option linter.unusedVariables false
set_option linter.unusedSimpArgs false
theorem bdrN {B n : Nat} {w w1 : World} (h : Below B w w1) : Below B w (w1.drewN n) := ⟨h.os, h.tape, h.output, h.size, h.block⟩
theorem pay_any (n p : Int) (w : World) (h0 : 0 ≤ n) (h1 : n ≤ 1000000000) (p0 : 0 ≤ p) (p1 : p ≤ 200000) : Calls Try.prog 28 #[.int .i64 n, .int .i64 p] w fun e w' => e = .returned (.tuple #[.int .i64 (payV n p), .int .i64 0]) ∧ w = w' := by
  obtain ⟨q0, q1, m0, m1⟩ := pay_bd h0 h1 p0 p1
  have b1 : inB n 0 1000000000000 = true := inB_iff.2 ⟨h0, by omega⟩
  have b2 : inB p 0 200000 = true := inB_iff.2 ⟨p0, p1⟩
  have b3 : inB (payV n p) 0 1000000000000 = true := inB_iff.2 ⟨q0, by omega⟩
  have hdv : (n * p + 50000).tdiv 100000 = payV n p := by unfold payV; exact Int.tdiv_eq_ediv_of_nonneg (by omega)
  have hw1 : wrap64 (n * p) = n * p := IntWalk.wrap64_in _ (by omega)
  have hi1 : IntKind.i64.wrap (n * p) = n * p := IntWalk.i64_in _ (by omega)
  have hw2 : wrap64 (n * p + 50000) = n * p + 50000 := IntWalk.wrap64_in _ (by omega)
  have hi2 : IntKind.i64.wrap (n * p + 50000) = n * p + 50000 := IntWalk.i64_in _ (by omega)
  have hw3 : wrap64 (payV n p) = payV n p := IntWalk.wrap64_in _ (by omega)
  have hi3 : IntKind.i64.wrap (payV n p) = payV n p := IntWalk.i64_in _ (by omega)
  obtain ⟨V, hV⟩ : ∃ V, payV n p = V := ⟨_, rfl⟩
  rw [hV] at b3 hdv hw3 hi3 q0 q1 ⊢
  obtain ⟨M, hM⟩ : ∃ M, n * p = M := ⟨_, rfl⟩
  rw [hM] at hdv hw1 hi1 hw2 hi2 m0 m1
  have HM := Lib.hid hM
  clear hV
  go_enter Try.func28, Try.ntmps28
  go_wp2_with fail
  refine (valid_any _ _).mono ?_
  rw [b1]
  rintro e w' ⟨rfl, rfl⟩
  go_wp2_with fail
  refine (amongU_any _ _ _ _).mono ?_
  rw [b2]
  rintro e w' ⟨rfl, rfl⟩
  go_wp2_with fail
  refine (valid_any _ _).mono ?_
  rw [b3]
  rintro e w' ⟨rfl, rfl⟩
  go_wp2
  go_ret2
  exact ⟨rfl, rfl⟩
set_option maxHeartbeats 4000000 in
set_option maxRecDepth 100000 in
theorem cash_any (P : Nat → Prop) (cut sold : Int) (av : Value) (A : List Awd) (w : World) (hS : Sl 4 encAwd P w av A) (hl : A.length ≤ 60) (hA : ∀ x ∈ A, AwdOk x) :
    Calls Try.prog 19 #[.agg #[.int .i64 cut, .int .i64 sold, av]] w fun e w' => e = .returned (.tuple #[.int .i64 (caT A A.length), .int .i64 0]) ∧ Below w.heap.size w w' := by
  obtain ⟨aa, m, ac, rfl, hm, -, -⟩ := hS.shape
  have hm1 : m ≤ 60 := by omega
  have hm2 : ¬ (60 : Int) < (m : Int) := by omega
  rw [hm]
  have HB := Lib.hid (fun k => caT_bd hA k)
  have HS := Lib.hid hS
  have HM := Lib.hid hm
  have HA := Lib.hid hA
  clear hS hm hl hA
  go_enter Try.func19, Try.ntmps19
  go_wp2
  go_loopw [16, 4] (fun iv sv wr => ∃ k : Nat, k ≤ m ∧ iv = .int .i64 k ∧ sv = .int .i64 (caT A k) ∧ Below w.heap.size w wr) (fun iv _ _ => m - (intOf iv).toNat)
  case atStart => exact ⟨0, by omega, rfl, rfl, bal brefl _⟩
  case round =>
    obtain ⟨k, hk, rfl, rfl, hbr⟩ := hrel
    have zr := hbr.size
    by_cases hlt : k < m
    · obtain ⟨bb, off, x0, x1, x2, x3, rfl, -, hbb, hx, k0, k1, k2, k3⟩ := (HS.out.below hbr).awd hlt
      have hkz : (k : Int) < (m : Int) := by omega
      obtain ⟨a0, a1, p0, p1⟩ := HA.out _ (List.mem_of_getElem? hx)
      simp only at a0 a1 p0 p1
      have e1 := caT_succ hx
      simp only at e1
      obtain ⟨c0, c1⟩ := HB.out k
      obtain ⟨q0, q1, -, -⟩ := pay_bd a0 a1 p0 p1
      have KP := Lib.hid (fun U => pay_any x2 x3 U a0 a1 p0 p1)
      obtain ⟨V, hV⟩ : ∃ V, payV x2 x3 = V := ⟨_, rfl⟩
      obtain ⟨Z, hZ⟩ : ∃ Z, caT A k = Z := ⟨_, rfl⟩
      rw [hV] at e1 q0 q1 KP
      rw [hZ] at e1 c0 c1 ⊢
      have hzb : Z ≤ 130000000000 := by omega
      have hw1 : wrap64 (Z + V) = Z + V := IntWalk.wrap64_in _ (by omega)
      have hi1 : IntKind.i64.wrap (Z + V) = Z + V := IntWalk.i64_in _ (by omega)
      have E1 := Lib.hid e1
      have HBR := Lib.hid hbr
      clear hV hZ e1 hx hbr a0 a1 p0 p1 c0 c1 q0 q1
      go_wp2_with fail
      refine (KP.out _).mono ?_
      rintro e w5 ⟨rfl, rfl⟩
      go_wp2
      go_roundw
      case rel => exact ⟨k + 1, by omega, by go_num, by rw [E1.out], bal HBR.out _⟩
      case measure => simp [intOf]; omega
    · have hkm : k = m := by omega
      subst hkm
      have HBR := Lib.hid hbr
      obtain ⟨Z, hZ⟩ : ∃ Z, caT A k = Z := ⟨_, rfl⟩
      rw [hZ]
      clear hbr
      go_wp2
      go_ret2
      refine ⟨?_, HBR.out⟩
      rw [hZ]; rfl
set_option maxHeartbeats 4000000 in
set_option maxRecDepth 100000 in
theorem rsame_eq (P Q : Nat → Prop) (cut sold : Int) (av bv : Value) (A : List Awd) (w : World) (hS : Sl 4 encAwd P w av A) (hT : Sl 4 encAwd Q w bv A) (hl : A.length ≤ 1000) :
    Calls Try.prog 17 #[.agg #[.int .i64 cut, .int .i64 sold, av], .agg #[.int .i64 cut, .int .i64 sold, bv]] w fun e w' => e = .returned (.bool true) ∧ Below w.heap.size w w' := by
  obtain ⟨aa, m, ac, rfl, hm, -, -⟩ := hS.shape
  obtain ⟨ba, m', bc, rfl, hm', -, -⟩ := hT.shape
  obtain rfl : m' = m := by omega
  have hm1 : m' ≤ 1000 := by omega
  have HS := Lib.hid hS
  have HT := Lib.hid hT
  have HM := Lib.hid hm
  clear hS hT hm hm' hl
  go_enter Try.func17, Try.ntmps17
  go_wp2
  go_loopw [30] (fun iv wr => ∃ k : Nat, k ≤ m' ∧ iv = .int .i64 k ∧ Below w.heap.size w wr ∧ wr.cell? ⟨w.heap.size, 2, none⟩ = some (.slice aa m' ac) ∧ wr.cell? ⟨w.heap.size + 1, 2, none⟩ = some (.slice ba m' bc)) (fun iv _ => m' - (intOf iv).toNat)
  case atStart => exact ⟨0, by omega, rfl, bal (bal brefl _) _, by go_simp, by go_simp⟩
  case round =>
    obtain ⟨k, hk, rfl, hbr, ca, cb⟩ := hrel
    have zr := hbr.size
    by_cases hlt : k < m'
    · obtain ⟨bb, off, x0, x1, x2, x3, rfl, -, hbb, hx, k0, k1, k2, k3⟩ := (HS.out.below hbr).awd hlt
      obtain ⟨bb', off', y0, y1, y2, y3, rfl, -, hbb', hy, j0, j1, j2, j3⟩ := (HT.out.below hbr).awd hlt
      rw [hx] at hy
      cases hy
      have hkz : (k : Int) < (m' : Int) := by omega
      have hk0 : 0 ≤ (k : Int) := by omega
      have HBR := Lib.hid hbr
      clear hx hbr
      go_wp2_with fail
      go_quiet (fail)
      go_wp2
      go_roundw
      case rel => exact ⟨k + 1, by omega, by go_num, bdrN HBR.out, ca, cb⟩
      case measure => simp [intOf]; omega
    · have HBR := Lib.hid hbr
      clear hbr
      go_wp2
      go_ret
      exact ⟨rfl, HBR.out⟩
set_option maxHeartbeats 4000000 in
set_option maxRecDepth 100000 in
theorem eqAwd_eq (P Q : Nat → Prop) (av bv : Value) (A : List Awd) (w : World) (hS : Sl 4 encAwd P w av A) (hT : Sl 4 encAwd Q w bv A) (hl : A.length ≤ 1000) :
    Calls Try.prog 39 #[av, bv] w fun e w' => e = .returned (.bool true) ∧ Below w.heap.size w w' := by
  obtain ⟨aa, m, ac, rfl, hm, -, -⟩ := hS.shape
  obtain ⟨ba, m', bc, rfl, hm', -, -⟩ := hT.shape
  obtain rfl : m' = m := by omega
  have hm1 : m' ≤ 1000 := by omega
  have HS := Lib.hid hS
  have HT := Lib.hid hT
  have HM := Lib.hid hm
  clear hS hT hm hm' hl
  go_enter Try.func39, Try.ntmps39
  go_wp2
  go_loopw [13] (fun iv wr => ∃ k : Nat, k ≤ m' ∧ iv = .int .i64 k ∧ Below w.heap.size w wr) (fun iv _ => m' - (intOf iv).toNat)
  case atStart => exact ⟨0, by omega, rfl, brefl⟩
  case round =>
    obtain ⟨k, hk, rfl, hbr⟩ := hrel
    have zr := hbr.size
    by_cases hlt : k < m'
    · obtain ⟨bb, off, x0, x1, x2, x3, rfl, -, hbb, hx, k0, k1, k2, k3⟩ := (HS.out.below hbr).awd hlt
      obtain ⟨bb', off', y0, y1, y2, y3, rfl, -, hbb', hy, j0, j1, j2, j3⟩ := (HT.out.below hbr).awd hlt
      rw [hx] at hy
      cases hy
      have hkz : (k : Int) < (m' : Int) := by omega
      have hk0 : 0 ≤ (k : Int) := by omega
      have HBR := Lib.hid hbr
      clear hx hbr
      go_wp2_with fail
      go_quiet (fail)
      go_wp2
      go_roundw
      case rel => exact ⟨k + 1, by omega, by go_num, bdrN HBR.out⟩
      case measure => simp [intOf]; omega
    · have HBR := Lib.hid hbr
      clear hbr
      go_wp2
      go_ret
      exact ⟨rfl, HBR.out⟩
set_option maxHeartbeats 4000000 in
set_option maxRecDepth 100000 in
theorem acheck_eq (P : Nat → Prop) (am le sh cut sold : Int) (un : Bool) (va : Option Addr) (vn vc : Nat) (bv : Value) (A : List Awd) (w : World) (hT : Sl 4 encAwd P w bv A) (hl : A.length ≤ 1000)
    (K : ∀ U, Below w.heap.size w U → Calls Try.prog 13 #[.agg #[.int .i64 am, .int .i64 le, .int .i64 sh, .bool un], .slice va vn vc] U fun e w' => ∃ av, e = .returned (.tuple #[.agg #[.int .i64 cut, .int .i64 sold, av], .int .i64 0]) ∧ w'.ownsRow U.heap.size 42 4 av A.length (flatE encAwd A) ∧ Below U.heap.size U w') :
    Calls Try.prog 18 #[.agg #[.int .i64 am, .int .i64 le, .int .i64 sh, .bool un], .slice va vn vc, .agg #[.int .i64 cut, .int .i64 sold, bv]] w fun e w' => e = .returned (.bool true) ∧ Below w.heap.size w w' := by
  obtain ⟨ba, m', bc, rfl, hm', -, -⟩ := hT.shape
  have HT := Lib.hid hT
  have HM := Lib.hid hm'
  have HL := Lib.hid hl
  have HK := Lib.hid K
  clear hT hm' hl K
  go_enter Try.func18, Try.ntmps18
  go_wp2_with fail
  refine (HK.out _ (bal (bal brefl _) _)).mono ?_
  rintro e w1 ⟨av, rfl, ho1, hb1⟩
  have c0 : w1.cell? ⟨w.heap.size + 1, 0, none⟩ = some (.int .i64 cut) := keepB hb1 (by go_simp)
  have c1 : w1.cell? ⟨w.heap.size + 1, 1, none⟩ = some (.int .i64 sold) := keepB hb1 (by go_simp)
  have c2 : w1.cell? ⟨w.heap.size + 1, 2, none⟩ = some (.slice ba m' bc) := keepB hb1 (by go_simp)
  have z1 : w.heap.size + 1 < w1.heap.size := World.block_lt_of_cell? _ _ c0
  have hS1 : Sl 4 encAwd (fun _ => True) w1 av A := Sl.own encAwd_len ho1 rfl (fun _ _ => trivial)
  obtain ⟨aa, ac, rfl⟩ := own_sl ho1
  have HS1 := Lib.hid hS1
  have hb2 := bup (bal (bal brefl _) _) hb1
  have HT1 := Lib.hid (HT.out.below hb2)
  have HB1 := Lib.hid hb2
  clear ho1 hb1 hS1 hb2
  go_wp2_with fail
  refine (eqAwd_eq _ _ _ _ A _ (HS1.out.below (bal brefl _)) (HT1.out.below (bal brefl _)) HL.out).mono ?_
  rintro e w2 ⟨rfl, hb2⟩
  go_wp2
  go_ret
  exact ⟨rfl, bup HB1.out (bup (bal brefl _) hb2)⟩
end Go.Proofs.Ytenbbmmbpjjjpaa
