/- cmp.Or at any numbers. -/
import Derived.Test.YtkdbdncboljfhaaCmpI
import Derived.Test.YtkdbdncboljfhaaRow
import Derived.Test.YtkdbdncboljfhaaSortL
import Derived.Test.YtkdbdncboljfhaaUp
import Derived.Shelf.Abstract
import Derived.ChangeAlike
import Derived.RegionTactic
import Derived.BigRegion
namespace Go.Proofs.Ytkdbdncboljfhaa
open Go.RowKit
set_option linter.unusedVariables false
set_option linter.unusedSimpArgs false
/-- the first that is not 0 -/
def orL : List Int → Int
  | [] => 0
  | a :: L => if a = 0 then orL L else a
theorem or_any (P : Nat → Prop) (v : Value) (L : List Int) (w : World) (hS : Sl 1 encI P w v L) (hlen : L.length ≤ 1000000) :
    Calls Try.prog 27 #[v] w fun e w' => e = .returned (.int .i64 (orL L)) ∧ w = w' := by
  obtain ⟨ao, n, c, rfl, hn, hnc, hcm⟩ := hS.shape
  have hn1 : n ≤ 1000000 := by omega
  obtain ⟨r, hr⟩ : ∃ r, orL L = r := ⟨_, rfl⟩
  rw [hr]
  have HS := Lib.hid hS
  have HN := Lib.hid hn
  have HR := Lib.hid hr
  clear hS hn hlen hr
  go_enter Try.func27, Try.ntmps27
  go_wp2
  go_loopw [8] (fun iv wr => ∃ k : Nat, k ≤ n ∧ iv = .int .i64 k ∧ r = orL (L.drop k) ∧ wr = w) (fun iv _ => n - (intOf iv).toNat)
  case atStart => exact ⟨0, by omega, rfl, by rw [List.drop_zero]; exact HR.out.symm, rfl⟩
  case round =>
    obtain ⟨k, hk, rfl, hrk, rfl⟩ := hrel
    by_cases hlt : k < n
    · obtain ⟨b, off, a, rfl, -, hb', hL, k0⟩ := HS.out.int hlt
      rw [drop_cons hL] at hrk
      simp only [orL] at hrk
      have HRK := Lib.hid hrk
      have hkn : (k : Int) < n := by omega
      clear hL hrk
      by_cases e1 : a = 0
      · have hrel2 := Lib.hid (show r = orL (L.drop (k + 1)) by rw [HRK.out, if_pos e1])
        subst e1
        go_wp2
        go_roundw
        case rel => exact ⟨k + 1, by omega, by go_num, hrel2.out, by first | rfl | trivial⟩
        case measure => simp [intOf]; omega
      · have hf := Lib.hid (show r = a by rw [HRK.out, if_neg e1])
        have h' : (a == 0) = false := by simpa using e1
        have h2 : (a != 0) = true := by simpa using e1
        go_wp2
        go_ret
        exact ⟨ret_int hf.out.symm, rfl⟩
    · have hf := Lib.hid (show r = 0 by rw [hrk, drop_all (by have := HN.out; omega)]; rfl)
      clear hrk
      go_wp2
      go_ret
      exact ⟨ret_int hf.out.symm, rfl⟩
theorem cmpI_neg (a b : Int) : cmpI a b < 0 ↔ a < b := by
  unfold cmpI
  by_cases h1 : a < b
  · simp [h1]
  · by_cases h2 : b < a
    · simp [h1, h2]
    · simp [h1, h2]
theorem cmpI_zero (a b : Int) : cmpI a b = 0 ↔ a = b := by
  unfold cmpI
  by_cases h1 : a < b
  · rw [if_pos h1]; omega
  · rw [if_neg h1]
    by_cases h2 : b < a
    · rw [if_pos h2]; omega
    · rw [if_neg h2]; omega
end Go.Proofs.Ytkdbdncboljfhaa
