/- liquidity.Interest. Printed by wip/gen/intr.py. -/
import Derived.Test.YtkkgipcidbgbhaaPlan
import Derived.Deep.QuietTactic
import Derived.BigQuiet
namespace Go.Proofs.Ytkkgipcidbgbhaa
open Go.RowKit
set_option linter.unusedVariables false

/-- amounts that can be -/
def amB (r p : Int) : Bool := inB r 0 1000000000000 && inB p 0 1000000000000
theorem amB_iff {r p : Int} : amB r p = true ↔ (0 ≤ r ∧ r ≤ 1000000000000) ∧ 0 ≤ p ∧ p ≤ 1000000000000 := by
  unfold amB
  rw [Bool.and_eq_true, inB_iff, inB_iff]
theorem amounts_any (d r p : Int) (w : World) : Calls Try.prog 58 #[.agg #[.int .i64 d, .int .i64 r, .int .i64 p]] w fun e w' => e = .returned (.bool (amB r p)) ∧ Below w.heap.size w w' := by
  cases h : inB r 0 1000000000000
  all_goals
    go_enter Try.func58, Try.ntmps58
    go_wp2_with (go_at_call 44; refine (valid_any _ _).mono ?_; first | (rw [h]; rintro e w' ⟨rfl, rfl⟩) | rintro e w' ⟨rfl, rfl⟩)
    go_ret
    exact ⟨by simp [amB, h], (Below.refl _ _).alloc (Nat.le_refl _) _⟩
theorem intr1_any (d r p : Int) (w : World) : Calls Try.prog 72 #[.agg #[.int .i64 d, .int .i64 r, .int .i64 p]] w fun e w' => e = .returned (.bool (!amB r p)) ∧ Below w.heap.size w w' := by
  go_enter Try.func72, Try.ntmps72
  go_wp2_with fail
  refine (amounts_any _ _ _ _).mono ?_
  rintro e w1 ⟨rfl, hb⟩
  go_wp2
  go_ret
  exact ⟨rfl, below_box hb⟩
set_option maxHeartbeats 1000000 in
set_option maxRecDepth 100000 in
theorem planBad_idx (ao : Option Addr) (n c : Nat) (pd : Nat → Int) (pr : Nat → Int) (pp : Nat → Int)  (w : World) (hn : n ≤ 1000000) (h : PlanAt w ao n c pd pr pp) :
    Calls Try.prog 65 #[.slice ao n c, .func (.func 72) #[] #[]] w fun e w' => e = .returned (.int .i64 (fstI (fun j => !amB (pr j) (pp j)) n)) ∧ Below w.heap.size w w' := by
  have H := Lib.hid h
  clear h
  go_enter Try.func65, Try.ntmps65
  go_wp2
  go_loopw [8] (fun iv wr => ∃ k : Nat, k ≤ n ∧ iv = .int .i64 k ∧ (∀ j, j < k → (fun j => !amB (pr j) (pp j)) j = false) ∧ Below w.heap.size w wr) (fun iv _ => n - (intOf iv).toNat)
  case atStart => exact ⟨0, by omega, rfl, by omega, Below.refl _ _⟩
  case round =>
    obtain ⟨k, hk, rfl, hall, hbr⟩ := hrel
    have HA := Lib.hid hall
    clear hall
    by_cases hlt : k < n
    · obtain ⟨b, off, rfl, hc⟩ := (H.out.below hbr).at_ (by omega)
      have hck := hc k hlt
      obtain ⟨vpd, hvpd⟩ : ∃ x, pd k = x := ⟨_, rfl⟩
      obtain ⟨vpr, hvpr⟩ : ∃ x, pr k = x := ⟨_, rfl⟩
      obtain ⟨vpp, hvpp⟩ : ∃ x, pp k = x := ⟨_, rfl⟩
      rw [hvpd, hvpr, hvpp] at hck
      have HX := Lib.hid (And.intro hvpd (And.intro hvpr hvpp))
      obtain ⟨k0, k1, k2⟩ := hck
      clear hc hvpd hvpr hvpp
      obtain ⟨pb, hpb⟩ : ∃ x, (!amB (vpr) (vpp)) = x := ⟨_, rfl⟩
      have HP := Lib.hid (show (fun j => !amB (pr j) (pp j)) k = pb by simp only [HX.out.2.1, HX.out.2.2]; exact hpb)
      have HPB := Lib.hid hpb
      clear hpb
      have zr := hbr.size
      cases pb
      · have hstep := Lib.hid (show ∀ j, j < k + 1 → (fun j => !amB (pr j) (pp j)) j = false from fun j hj => by
          rcases Nat.lt_or_ge j k with h | h
          · exact HA.out j h
          · rw [show j = k by omega]; exact HP.out)
        go_wp2_with fail
        refine (intr1_any _ _ _ _).mono ?_
        rw [HPB.out]
        rintro e w' ⟨rfl, hb'⟩
        have hB' := Below.trans hbr (Below.mono hb' zr)
        clear hb'
        go_wp2
        go_roundw
        case rel => exact ⟨k + 1, by omega, by go_num, hstep.out, hB'⟩
        case measure => simp [intOf]; omega
      · have hfin := Lib.hid (fstI_some (p := (fun j => !amB (pr j) (pp j))) hlt HP.out HA.out)
        go_wp2_with fail
        refine (intr1_any _ _ _ _).mono ?_
        rw [HPB.out]
        rintro e w' ⟨rfl, hb'⟩
        have hB' := Below.trans hbr (Below.mono hb' zr)
        clear hb'
        go_wp2
        go_ret
        exact ⟨ret_int hfin.out.symm, hB'⟩
    · have hfin := Lib.hid (fstI_none (p := (fun j => !amB (pr j) (pp j))) (n := n) (fun j hj => HA.out j (by omega)))
      go_wp2
      go_ret
      exact ⟨ret_int hfin.out.symm, hbr⟩
theorem planBad_any (ao : Option Addr) (n c : Nat) (pd : Nat → Int) (pr : Nat → Int) (pp : Nat → Int)  (w : World) (hn : n ≤ 1000000) (h : PlanAt w ao n c pd pr pp) :
    Calls Try.prog 56 #[.slice ao n c, .func (.func 72) #[] #[]] w fun e w' => e = .returned (.bool (anyB (fun j => !amB (pr j) (pp j)) n)) ∧ Below w.heap.size w w' := by
  have hf := fstI_any (fun j => !amB (pr j) (pp j)) n
  obtain ⟨i, hi⟩ : ∃ i, fstI (fun j => !amB (pr j) (pp j)) n = i := ⟨_, rfl⟩
  rw [← hf, hi]
  have H := Lib.hid h
  have HI := Lib.hid hi
  clear h hf hi
  go_enter Try.func56, Try.ntmps56
  go_wp2_with fail
  refine (planBad_idx ao n c pd pr pp  w hn H.out).mono ?_
  rw [HI.out]
  rintro e w' ⟨rfl, hb'⟩
  go_wp2
  go_ret
  exact ⟨rfl, hb'⟩
/-- what an amount costs for a day -/
def costV (n ra : Int) : Int := (n * ra + 18000000) / 36000000
theorem costV_bd {n ra : Int} (h0 : 0 ≤ n) (h1 : n ≤ 1000000000000) (h2 : 0 ≤ ra) (h3 : ra ≤ 20000) : 0 ≤ costV n ra ∧ costV n ra ≤ 600000000 := by
  have a : 0 ≤ n * ra := Int.mul_nonneg h0 h2
  have b : n * ra ≤ 1000000000000 * 20000 := Int.mul_le_mul h1 h3 h2 (by omega)
  unfold costV
  omega
theorem cost30_any (n ra : Int) (w : World) (h0 : 0 ≤ n) (h1 : n ≤ 1000000000000) (h2 : 0 ≤ ra) (h3 : ra ≤ 20000) :
    Calls Try.prog 73 #[.int .i64 n, .int .i64 ra] w fun e w' => e = .returned (.int .i64 (costV n ra)) ∧ w = w' := by
  have a : 0 ≤ n * ra := Int.mul_nonneg h0 h2
  have b : n * ra ≤ 1000000000000 * 20000 := Int.mul_le_mul h1 h3 h2 (by omega)
  go_enter Try.func73, Try.ntmps73
  go_wp2
  go_ret
  exact ⟨rfl, rfl⟩
def sumI (r p : Nat → Int) (ra pl : Int) : Nat → Int
  | 0 => 0
  | k + 1 => sumI r p ra pl k + (costV (r k) ra - costV (p k) pl)
theorem sumI_bd {r p : Nat → Int} {ra pl : Int} (h2 : 0 ≤ ra) (h3 : ra ≤ 20000) (h4 : 0 ≤ pl) (h5 : pl ≤ 20000) : ∀ n : Nat, (∀ j, j < n → (amB (r j) (p j)) = true) → -(600000000 * (n : Int)) ≤ sumI r p ra pl n ∧ sumI r p ra pl n ≤ 600000000 * (n : Int)
  | 0, _ => by simp [sumI]
  | k + 1, h => by
    have ih := sumI_bd h2 h3 h4 h5 k (fun j hj => h j (by omega))
    have hk := h k (by omega)
    obtain ⟨q1, q2⟩ := amB_iff.1 hk
    have c1 := costV_bd q1.1 q1.2 h2 h3
    have c2 := costV_bd q2.1 q2.2 h4 h5
    simp only [sumI]
    omega
/-- the error of Interest -/
def inE (n : Nat) (r p : Nat → Int) (ra pl : Int) : Int := if 1000 < n then 3 else if anyB (fun j => !amB (r j) (p j)) n || !inB ra 0 20000 || !inB pl 0 20000 then 2 else 0
def inS (n : Nat) (r p : Nat → Int) (ra pl : Int) : Int := if inE n r p ra pl = 0 then sumI r p ra pl n else 0
theorem ret_two {a b a' b' : Int} (h : a = a' ∧ b = b') : Ending.returned (.tuple #[.int .i64 a, .int .i64 b]) = .returned (.tuple #[.int .i64 a', .int .i64 b']) := by
  obtain ⟨rfl, rfl⟩ := h; rfl
theorem anyB_all {p : Nat → Bool} {n : Nat} (h : anyB p n = false) : ∀ j, j < n → p j = false := by
  intro j hj
  cases hp : p j
  · rfl
  · simp only [anyB, decide_eq_false_iff_not] at h
    exact absurd ⟨j, hj, hp⟩ h
set_option maxHeartbeats 1000000 in
set_option maxRecDepth 100000 in
theorem interest_any (ao : Option Addr) (n c : Nat) (d r p : Nat → Int) (ra pl : Int) (w : World) (hn : n ≤ 1000000) (h : PlanAt w ao n c d r p) :
    Calls Try.prog 29 #[.slice ao n c, .int .i64 ra, .int .i64 pl] w fun e w' => e = .returned (.tuple #[.int .i64 (inS n r p ra pl), .int .i64 (inE n r p ra pl)]) ∧ Below w.heap.size w w' := by
  have H := Lib.hid h
  clear h
  by_cases h0 : 1000 < n
  · have hE := Lib.hid (show inE n r p ra pl = 3 by unfold inE; rw [if_pos h0])
    have hS := Lib.hid (show inS n r p ra pl = 0 by unfold inS; rw [hE.out, if_neg (by omega)])
    rw [hE.out, hS.out]
    go_enter Try.func29, Try.ntmps29
    go_wp2
    go_ret2
    exact ⟨rfl, Below.refl _ _⟩
  obtain ⟨b, hb⟩ : ∃ b, anyB (fun j => !amB (r j) (p j)) n = b := ⟨_, rfl⟩
  have HB := Lib.hid hb
  by_cases hg : (b || !inB ra 0 20000 || !inB pl 0 20000) = true
  · have hE := Lib.hid (show inE n r p ra pl = 2 by unfold inE; rw [if_neg h0, hb, if_pos hg])
    have hS := Lib.hid (show inS n r p ra pl = 0 by unfold inS; rw [hE.out, if_neg (by omega)])
    rw [hE.out, hS.out]
    clear hb
    cases b
    · cases hr : inB ra 0 20000
      · go_enter Try.func29, Try.ntmps29
        go_wp2_with (first
          | (go_at_call 56; refine (planBad_any ao n c d r p w hn H.out).mono ?_; rw [HB.out]; rintro e w1 ⟨rfl, hb1⟩)
          | (go_at_call 69; refine (among30_any _ _ _ _).mono ?_; rw [hr]; rintro e w2 ⟨rfl, rfl⟩))
        go_ret2
        exact ⟨rfl, by assumption⟩
      · have hp : inB pl 0 20000 = false := by simpa [hr] using hg
        go_enter Try.func29, Try.ntmps29
        go_wp2_with (first
          | (go_at_call 56; refine (planBad_any ao n c d r p w hn H.out).mono ?_; rw [HB.out]; rintro e w1 ⟨rfl, hb1⟩)
          | (go_at_call 69; refine (among30_any _ _ _ _).mono ?_; first | (rw [hr]; rintro e w2 ⟨rfl, rfl⟩) | (rw [hp]; rintro e w2 ⟨rfl, rfl⟩)))
        go_ret2
        exact ⟨rfl, by assumption⟩
    · go_enter Try.func29, Try.ntmps29
      go_wp2_with (go_at_call 56; refine (planBad_any ao n c d r p w hn H.out).mono ?_; rw [HB.out]; rintro e w1 ⟨rfl, hb1⟩)
      go_ret2
      exact ⟨rfl, by assumption⟩
  · have hE := Lib.hid (show inE n r p ra pl = 0 by unfold inE; rw [if_neg h0, hb, if_neg hg])
    have hS := Lib.hid (show inS n r p ra pl = sumI r p ra pl n by unfold inS; rw [hE.out, if_pos rfl])
    have hg' : b = false ∧ inB ra 0 20000 = true ∧ inB pl 0 20000 = true := by simpa [and_assoc] using hg
    obtain ⟨rfl, hr, hp⟩ := hg'
    obtain ⟨r0, r1⟩ := inB_iff.1 hr
    obtain ⟨p0, p1⟩ := inB_iff.1 hp
    have HA := Lib.hid (show ∀ j, j < n → (amB (r j) (p j)) = true from fun j hj => by simpa using anyB_all hb j hj)
    rw [hE.out, hS.out]
    clear hb hg
    go_enter Try.func29, Try.ntmps29
    go_wp2_with (first
      | (go_at_call 56; refine (planBad_any ao n c d r p w hn H.out).mono ?_; rw [HB.out]; rintro e w1 ⟨rfl, hb1⟩)
      | (go_at_call 69; refine (among30_any _ _ _ _).mono ?_; first | (rw [hr]; rintro e w2 ⟨rfl, rfl⟩) | (rw [hp]; rintro e w2 ⟨rfl, rfl⟩)))
    go_loopw [8, 30] (fun sv iv wr => ∃ k : Nat, k ≤ n ∧ iv = .int .i64 k ∧ sv = .int .i64 (sumI r p ra pl k) ∧ Below w.heap.size w wr) (fun _ iv _ => n - (intOf iv).toNat)
    case atStart => exact ⟨0, by omega, rfl, rfl, by assumption⟩
    case round =>
      obtain ⟨k, hk, rfl, rfl, hbr⟩ := hrel
      have zr := hbr.size
      have sb := sumI_bd (r := r) (p := p) r0 r1 p0 p1 k (fun j hj => HA.out j (by omega))
      by_cases hlt : k < n
      · have hs1 := Lib.hid (show sumI r p ra pl (k + 1) = sumI r p ra pl k + (costV (r k) ra - costV (p k) pl) from rfl)
        have hak := HA.out k hlt
        obtain ⟨⟨y1, y2⟩, y3, y4⟩ := amB_iff.1 hak
        obtain ⟨bb, off, rfl, hc⟩ := (H.out.below hbr).at_ (by omega)
        have hck := hc k hlt
        obtain ⟨vd, hvd⟩ : ∃ x, d k = x := ⟨_, rfl⟩
        obtain ⟨vr, hvr⟩ : ∃ x, r k = x := ⟨_, rfl⟩
        obtain ⟨vp, hvp⟩ : ∃ x, p k = x := ⟨_, rfl⟩
        obtain ⟨S, hSs⟩ : ∃ S, sumI r p ra pl k = S := ⟨_, rfl⟩
        have HS1 := Lib.hid (show sumI r p ra pl (k + 1) = S + (costV vr ra - costV vp pl) by rw [hs1.out, hSs, hvr, hvp])
        rw [hvd, hvr, hvp] at hck
        rw [hvr] at y1 y2
        rw [hvp] at y3 y4
        rw [hSs] at sb
        have c1 := costV_bd y1 y2 r0 r1
        have c2 := costV_bd y3 y4 p0 p1
        have C1 := Lib.hid (fun wq => cost30_any vr ra wq y1 y2 r0 r1)
        have C2 := Lib.hid (fun wq => cost30_any vp pl wq y3 y4 p0 p1)
        obtain ⟨x1, hx1⟩ : ∃ x, costV vr ra = x := ⟨_, rfl⟩
        obtain ⟨x2, hx2⟩ : ∃ x, costV vp pl = x := ⟨_, rfl⟩
        rw [hx1] at c1 C1 HS1
        rw [hx2] at c2 C2 HS1
        have w1' := IntWalk.i64_in (x1 - x2) (by omega)
        have w2' := IntWalk.i64_in (S + (x1 - x2)) (by omega)
        obtain ⟨k0, k1, k2⟩ := hck
        rw [hSs]
        clear hc hvd hvr hvp hx1 hx2 hSs hs1 hak
        go_wp2
        go_quiet (first
          | (go_at_call 73; exact (C1.out _).mono fun _ _ hh => ⟨hh.1, _, hh.2.symm⟩)
          | (go_at_call 73; exact (C2.out _).mono fun _ _ hh => ⟨hh.1, _, hh.2.symm⟩))
        go_wp2
        go_roundw
        case rel => exact ⟨k + 1, by omega, by go_num, by rw [HS1.out], by first | exact (hbr.alloc zr _) | (have q := hbr.alloc zr (.cells #[.int .i64 vd, .int .i64 vr, .int .i64 vp] 53); exact ⟨q.os, q.tape, q.output, q.size, q.block⟩)⟩
        case measure => simp [intOf]; omega
      · have hkn : k = n := by omega
        subst hkn
        obtain ⟨S, hSs⟩ : ∃ S, sumI r p ra pl k = S := ⟨_, rfl⟩
        rw [hSs]
        rw [hSs] at sb
        have HSs := Lib.hid hSs
        clear hSs
        go_wp2
        go_ret2
        exact ⟨ret_two ⟨HSs.out.symm, rfl⟩, hbr⟩
end Go.Proofs.Ytkkgipcidbgbhaa
