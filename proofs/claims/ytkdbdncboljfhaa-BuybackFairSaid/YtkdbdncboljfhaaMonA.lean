/- money.Parts: its closures. -/
import Derived.Test.YtkdbdncboljfhaaMonP
import Derived.Test.YtkdbdncboljfhaaShare
import Derived.Test.YtkdbdncboljfhaaIxI
import Derived.Test.YtkdbdncboljfhaaSortF
import Derived.Deep.AppendLies
namespace Go.Proofs.Ytkdbdncboljfhaa
open Go.RowKit
set_option linter.unusedVariables false
set_option linter.unusedSimpArgs false
theorem parts1_any (n : Int) (w : World) : Calls Try.prog 46 #[.int .i64 n] w fun e w' => e = .returned (.bool (!wgB n)) ∧ w = w' := by
  go_enter Try.func46, Try.ntmps46
  go_wp2_with (go_at_call 47; refine (weight_any _ _).mono ?_; rintro e w' ⟨rfl, rfl⟩)
  go_ret
  exact ⟨rfl, rfl⟩
theorem wgAny_any (P : Nat → Prop) (v : Value) (L : List Int) (w : World) (hS : Sl 1 encI P w v L) (hl : L.length ≤ 1000000) :
    Calls Try.prog 45 #[v, .func (.func 46) #[] #[]] w fun e w' => e = .returned (.bool (L.any fun w => !wgB w)) ∧ Below w.heap.size w w' :=
  containsI_any 46 #[] (fun w => !wgB w) P v L w (enters_of Try.func46 (by kernel_rfl) rfl) (fun W _ x _ => (parts1_any x W).mono fun e w' h => ⟨h.1, h.2 ▸ brefl⟩) hS hl
/-- what the comparison reads -/
structure CpBox (b2 b3 b6 : Nat) (t s : Int) (v : Value) (P : Nat → Prop) (W : List Int) (w : World) : Prop where
  c2 : w.cell? ⟨b2, 0, none⟩ = some (.int .i64 t)
  c3 : w.cell? ⟨b3, 0, none⟩ = some v
  c6 : w.cell? ⟨b6, 0, none⟩ = some (.int .i64 s)
  sl : Sl 1 encI P w v W
set_option maxHeartbeats 1000000 in
theorem parts2_any (b2 b3 b6 : Nat) (t s : Int) (v : Value) (P : Nat → Prop) (W : List Int) (i k : Int) (w : World) (h : CpBox b2 b3 b6 t s v P W w) (t0 : 0 ≤ t) (t1 : t ≤ 1000000000000) (s0 : 0 < s) (s1 : s ≤ 1000000000000)
    (hW : ∀ x ∈ W, 0 ≤ x ∧ x ≤ 1000000) (hl : W.length ≤ 1000000) (i0 : 0 ≤ i) (i1 : i < W.length) (k0 : 0 ≤ k) (k1 : k < W.length) :
    Calls Try.prog 49 (#[.int .i64 i, .int .i64 k] ++ #[.pointer (some ⟨b2, 0, none⟩), .pointer (some ⟨b3, 0, none⟩), .pointer (some ⟨b6, 0, none⟩)]) w fun e w' => e = .returned (.int .i64 (cfP t s W i k)) ∧ ∃ q, w' = w.drewN q := by
  obtain ⟨c2, c3, c6, hS⟩ := h
  obtain ⟨ao, n, c, rfl, hn, hnc, hcm⟩ := hS.shape
  obtain ⟨a, rfl⟩ := Int.eq_ofNat_of_zero_le i0
  obtain ⟨d, rfl⟩ := Int.eq_ofNat_of_zero_le k0
  obtain ⟨b, off, x, rfl, -, -, hx, hcx⟩ := hS.int (k := a) (by omega)
  obtain ⟨b', off', y, he, -, -, hy, hcy⟩ := hS.int (k := d) (by omega)
  cases he
  have bx := hW x (List.mem_of_getElem? hx)
  have by_ := hW y (List.mem_of_getElem? hy)
  have px := mul_bd t0 t1 bx.1 bx.2
  have py := mul_bd t0 t1 by_.1 by_.2
  have rx : rAt t s W (a : Int) = t * x % s := by simp [rAt, rstP, List.getD_eq_getElem?_getD, hx]
  have ry : rAt t s W (d : Int) = t * y % s := by simp [rAt, rstP, List.getD_eq_getElem?_getD, hy]
  have hcf : cfP t s W a d = cmpI (t * y % s) (t * x % s) := by unfold cfP; rw [rx, ry]
  rw [hcf]
  have ex : (t * x).tmod s = t * x % s := Int.tmod_eq_emod_of_nonneg px.1
  have ey : (t * y).tmod s = t * y % s := Int.tmod_eq_emod_of_nonneg py.1
  obtain ⟨p, hp⟩ : ∃ p, t * x = p := ⟨_, rfl⟩
  obtain ⟨q, hq⟩ : ∃ q, t * y = q := ⟨_, rfl⟩
  rw [hp] at px ex
  rw [hq] at py ey
  rw [hp, hq]
  obtain ⟨r, hr⟩ : ∃ r, p % s = r := ⟨_, rfl⟩
  obtain ⟨u, hu⟩ : ∃ u, q % s = u := ⟨_, rfl⟩
  rw [hr] at ex
  rw [hu] at ey
  rw [hr, hu]
  have hr0 : 0 ≤ r ∧ r < s := by rw [← hr]; exact ⟨Int.emod_nonneg _ (by omega), Int.emod_lt_of_pos _ s0⟩
  have hu0 : 0 ≤ u ∧ u < s := by rw [← hu]; exact ⟨Int.emod_nonneg _ (by omega), Int.emod_lt_of_pos _ s0⟩
  have ha : (a : Int) < (n : Int) := by omega
  have hd : (d : Int) < (n : Int) := by omega
  have w1 : IntKind.i64.wrap p = p := IntWalk.i64_in _ (by omega)
  have w2 : IntKind.i64.wrap q = q := IntWalk.i64_in _ (by omega)
  have w3 : IntKind.i64.wrap r = r := IntWalk.i64_in _ (by omega)
  have w4 : IntKind.i64.wrap u = u := IntWalk.i64_in _ (by omega)
  have hs0 : (s == 0) = false := by simp; omega
  have hs1 : ¬ s = 0 := by omega
  obtain ⟨px0, px1⟩ := px
  obtain ⟨py0, py1⟩ := py
  clear hS hn hx hy rx ry hcf hr hu
  go_enter Try.func49, Try.ntmps49
  go_wp2_with fail
  go_quiet ((go_at_call 22; exact Calls.quiet_of_same ((compare_any _ _ _).mono fun _ _ h => ⟨h.1, h.2.symm⟩)))
  go_wp2
  go_ret
  exact ⟨rfl, _, rfl⟩
end Go.Proofs.Ytkdbdncboljfhaa
