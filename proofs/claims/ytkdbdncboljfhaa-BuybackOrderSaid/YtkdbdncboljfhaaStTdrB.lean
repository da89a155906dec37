/- slices.swapRangeCmpFunc, rotateCmpFunc, at [](struct); printed by wip/gen/sortz2.py. -/
import Derived.Test.YtkdbdncboljfhaaStTdrA
import Derived.Test.YtkdbdncboljfhaaSortM
namespace Go.Proofs.Ytkdbdncboljfhaa
open Go.RowKit
set_option linter.unusedVariables false
set_option linter.unusedSimpArgs false

set_option maxHeartbeats 4000000 in
set_option maxRecDepth 100000 in
theorem swapRTdr_any (fv : Value) (base g n cap a b k : Nat) (X U M V Y : List Tdr) (w : World)
    (hrow : RowTdr base g n cap (X ++ U ++ M ++ V ++ Y) w) (ha : X.length = a) (hU : U.length = k) (hb : a + k + M.length = b) (hV : V.length = k) (hn : n ≤ 1000000000) :
    Calls Try.prog 68 #[.slice (some ⟨g, 0, none⟩) n cap, .int .i64 a, .int .i64 b, .int .i64 k, fv] w fun e w' => e = .returned (.tuple #[]) ∧ RowTdr base g n cap (X ++ V ++ M ++ U ++ Y) w' ∧ w.grownBy w' (some g) := by
  have hlen : X.length + U.length + M.length + V.length + Y.length = n := by have := hrow.2; simp at this; omega
  have hbn : b + k ≤ n := by omega
  have hab : a + k ≤ b := by omega
  have HA := Lib.hid ha
  have HU := Lib.hid hU
  have HB := Lib.hid hb
  have HV := Lib.hid hV
  have HR := Lib.hid hrow
  clear hrow hlen ha hU hb hV
  go_enter Try.func68, Try.ntmps68
  go_wp2
  go_loopw [10] (fun iv wr => ∃ i : Nat, i ≤ k ∧ iv = .int .i64 i ∧ RowTdr base g n cap (X ++ V.take i ++ U.drop i ++ M ++ U.take i ++ V.drop i ++ Y) wr ∧ w.grownBy wr (some g)) (fun iv _ => k - (intOf iv).toNat)
  case atStart => exact ⟨0, by omega, rfl, by simpa using HR.out, zrefl _ _⟩
  case round =>
    obtain ⟨i, hi, rfl, hr, hg⟩ := hrel
    by_cases hlt : i < k
    · obtain ⟨x, hx⟩ : ∃ x, U[i]? = some x := ⟨_, List.getElem?_eq_getElem (by have := HU.out; omega)⟩
      obtain ⟨y, hy⟩ : ∃ y, V[i]? = some y := ⟨_, List.getElem?_eq_getElem (by have := HV.out; omega)⟩
      have e1 : X ++ V.take i ++ U.drop i ++ M ++ U.take i ++ V.drop i ++ Y = (X ++ V.take i) ++ x :: ((U.drop (i + 1) ++ M ++ U.take i) ++ y :: (V.drop (i + 1) ++ Y)) := by
        rw [drop_cons hx, drop_cons hy]; simp
      have e2 : (X ++ V.take i) ++ y :: ((U.drop (i + 1) ++ M ++ U.take i) ++ x :: (V.drop (i + 1) ++ Y)) = X ++ V.take (i + 1) ++ U.drop (i + 1) ++ M ++ U.take (i + 1) ++ V.drop (i + 1) ++ Y := by
        rw [take_snocZ hx, take_snocZ hy]; simp
      obtain ⟨P, hP⟩ : ∃ P, X ++ V.take i = P := ⟨_, rfl⟩
      obtain ⟨M', hM⟩ : ∃ M', U.drop (i + 1) ++ M ++ U.take i = M' := ⟨_, rfl⟩
      obtain ⟨R, hR⟩ : ∃ R, V.drop (i + 1) ++ Y = R := ⟨_, rfl⟩
      have hPl : P.length = a + i := by rw [← hP, List.length_append, List.length_take]; have := HA.out; have := HV.out; omega
      have hMl : a + i + 1 + M'.length = b + i := by
        rw [← hM, List.length_append, List.length_append, List.length_take, List.length_drop]; have := HU.out; have := HB.out; omega
      rw [e1, hP, hM, hR] at hr
      rw [hP, hM, hR] at e2
      have hcx := zget_at P (M' ++ y :: R) x hPl
      have hcy : (P ++ x :: (M' ++ y :: R))[b + i]? = some y := by
        have := zget_at (P ++ x :: M') R y (j := b + i) (by simp; omega)
        simpa using this
      obtain ⟨p, hp0⟩ : ∃ p, p = a + i := ⟨_, rfl⟩
      obtain ⟨r, hr0⟩ : ∃ r, r = b + i := ⟨_, rfl⟩
      rw [← hp0] at hcx
      rw [← hr0] at hcy
      obtain ⟨x0, x1, x2, x3⟩ := x
      obtain ⟨y0, y1, y2, y3⟩ := y
      have cx0 := hr.cell encTdr_len (i := 0) hcx rfl; have cx1 := hr.cell encTdr_len (i := 1) hcx rfl; have cx2 := hr.cell encTdr_len (i := 2) hcx rfl; have cx3 := hr.cell encTdr_len (i := 3) hcx rfl; simp only [Nat.add_zero] at cx0
      have cy0 := hr.cell encTdr_len (i := 0) hcy rfl; have cy1 := hr.cell encTdr_len (i := 1) hcy rfl; have cy2 := hr.cell encTdr_len (i := 2) hcy rfl; have cy3 := hr.cell encTdr_len (i := 3) hcy rfl; simp only [Nat.add_zero] at cy0
      have fr := fun o => hr.fro o
      have HE := Lib.hid e2
      have HPL := Lib.hid hPl
      have HML := Lib.hid hMl
      have HROW := Lib.hid hr
      have HG := Lib.hid hg
      clear hx hy e1 e2 hP hM hR hPl hMl hr hg hcx hcy
      have z1 : (a : Int) + i < n := by omega
      have z2 : (b : Int) + i < n := by omega
      have q1 : (0 : Int) ≤ (a : Int) + i := by omega
      have q2 : (0 : Int) ≤ (b : Int) + i := by omega
      have t1 : ((a : Int) + i).toNat = a + i := by omega
      have t2 : ((b : Int) + i).toNat = b + i := by omega
      have v1 : IntKind.i64.wrap ((a : Int) + i) = (a : Int) + i := by rw [IntKind.wrap_i64]; omega
      have v2 : IntKind.i64.wrap ((b : Int) + i) = (b : Int) + i := by rw [IntKind.wrap_i64]; omega
      rw [← hp0] at t1
      rw [← hr0] at t2
      have HPI := Lib.hid hp0
      have HRI := Lib.hid hr0
      have w1 : (a : Int) + i = (p : Int) := by omega
      have w2 : (b : Int) + i = (r : Int) := by omega
      have hpr : p ≠ r := by omega
      have z1' : (p : Int) < n := by omega
      have z2' : (r : Int) < n := by omega
      clear hp0 hr0 z1 z2 q1 q2 t1 t2 v1 v2
      go_wp2_with fail
      go_region
      all_goals go_wp2
      go_roundw
      case rel =>
        have hx := HROW.out.two encTdr_len 1 HPL.out HML.out
        rw [← HPI.out, ← HRI.out] at hx
        exact ⟨i + 1, by omega, by go_num, by rw [← HE.out]; exact hx.1, ztrans HG.out hx.2⟩
      case measure => simp [intOf]; omega
    · have hd : ¬ (i : Int) < (k : Int) := by omega
      have hfin : X ++ V.take i ++ U.drop i ++ M ++ U.take i ++ V.drop i ++ Y = X ++ V ++ M ++ U ++ Y := by
        rw [List.take_of_length_le (by have := HV.out; omega), List.drop_of_length_le (by have := HU.out; omega), List.take_of_length_le (by have := HU.out; omega), List.drop_of_length_le (by have := HV.out; omega)]
        simp
      rw [hfin] at hr
      have HR2 := Lib.hid hr
      have HG2 := Lib.hid hg
      clear hfin hr hg
      go_wp2
      go_end0
      exact ⟨rfl, by simpa using HR2.out, HG2.out⟩
end Go.Proofs.Ytkdbdncboljfhaa
