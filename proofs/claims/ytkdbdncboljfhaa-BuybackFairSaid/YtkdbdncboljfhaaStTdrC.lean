/- slices.rotateCmpFunc, and symMergeCmpFunc's two short ways, at [](struct); printed by wip/gen/sortz2.py. -/
import Derived.Test.YtkdbdncboljfhaaStTdrB
namespace Go.Proofs.Ytkdbdncboljfhaa
open Go.RowKit
set_option linter.unusedVariables false
set_option linter.unusedSimpArgs false

set_option maxHeartbeats 4000000 in
set_option maxRecDepth 100000 in
theorem rotTdr_any (fv : Value) (base g n cap a m b : Nat) (X U V Y : List Tdr) (w : World)
    (hrow : RowTdr base g n cap (X ++ U ++ V ++ Y) w) (ha : X.length = a) (hm : a + U.length = m) (hb : m + V.length = b) (hU : 0 < U.length) (hV : 0 < V.length) (hn : n ≤ 1000000000) :
    Calls Try.prog 60 #[.slice (some ⟨g, 0, none⟩) n cap, .int .i64 a, .int .i64 m, .int .i64 b, fv] w fun e w' => e = .returned (.tuple #[]) ∧ RowTdr base g n cap (X ++ V ++ U ++ Y) w' ∧ w.grownBy w' (some g) := by
  have hlen : X.length + U.length + V.length + Y.length = n := by have := hrow.2; simp at this; omega
  have hbn : b ≤ n := by omega
  obtain ⟨i0, hi0⟩ : ∃ i0, U.length = i0 := ⟨_, rfl⟩
  obtain ⟨j0, hj0⟩ : ∃ j0, V.length = j0 := ⟨_, rfl⟩
  rw [hi0] at hm hU
  rw [hj0] at hb hV
  have e1 : (m : Int) - a = i0 := by omega
  have e2 : (b : Int) - m = j0 := by omega
  have HA := Lib.hid ha
  have HI := Lib.hid hi0
  have HJ := Lib.hid hj0
  have HR := Lib.hid hrow
  have HM := Lib.hid hm
  have HB := Lib.hid hb
  clear hrow hlen ha hi0 hj0
  go_enter Try.func60, Try.ntmps60
  go_wp2
  go_loopw [10, 11] (fun iv jv wr => ∃ (i j : Nat) (X' U' V' Y' : List Tdr), iv = .int .i64 i ∧ jv = .int .i64 j ∧ U'.length = i ∧ V'.length = j ∧ 0 < i ∧ 0 < j ∧ X'.length + i = m ∧ m + j ≤ n ∧ X' ++ V' ++ U' ++ Y' = X ++ V ++ U ++ Y ∧ RowTdr base g n cap (X' ++ U' ++ V' ++ Y') wr ∧ w.grownBy wr (some g)) (fun iv jv _ => (intOf iv).toNat + (intOf jv).toNat)
  case atStart => exact ⟨i0, j0, X, U, V, Y, rfl, rfl, HI.out, HJ.out, hU, hV, by have := HA.out; omega, by omega, rfl, HR.out, zrefl _ _⟩
  case round =>
    obtain ⟨i, j, X', U', V', Y', rfl, rfl, hU', hV', hi, hj, hX, hmj, hL, hr, hg⟩ := hrel
    clear e1 e2
    obtain ⟨p, hp⟩ : ∃ p, X'.length = p := ⟨_, rfl⟩
    rw [hp] at hX
    have ep : (m : Int) - i = p := by omega
    have HP := Lib.hid hp
    have HU := Lib.hid hU'
    have HV := Lib.hid hV'
    have HX := Lib.hid hX
    have HL := Lib.hid hL
    have HR' := Lib.hid hr
    have HG := Lib.hid hg
    clear hp hU' hV' hX hL hr hg
    by_cases hij : i = j
    · subst hij
      have hc := fun W (hW : W = wr) => swapRTdr_any fv base g n cap p m i X' U' [] V' Y' W (by rw [hW]; simpa using HR'.out) HP.out HU.out (by have := HX.out; simp; omega) HV.out hn
      have hne : ((i : Int) != (i : Int)) = false := by simp
      go_wp2_with (go_at_call 68; refine (hc _ rfl).mono ?_; rintro e w2 ⟨rfl, hr2, hg2⟩)
      go_end0
      refine ⟨rfl, ?_, ztrans HG.out hg2⟩
      have := HL.out
      simp only [List.append_nil, List.append_assoc] at hr2 this ⊢
      rw [← this]
      exact hr2
    · have hne : ((i : Int) == (j : Int)) = false := by simp; omega
      have hne2 : ((i : Int) != (j : Int)) = true := by simp; omega
      by_cases hgt : j < i
      · obtain ⟨U1, U2, hUU, hU1⟩ : ∃ U1 U2, U' = U1 ++ U2 ∧ U1.length = j := ⟨U'.take j, U'.drop j, (List.take_append_drop _ _).symm, by rw [List.length_take]; have := HU.out; omega⟩
        have hU2 : U2.length = i - j := by have := HU.out; rw [hUU, List.length_append] at this; omega
        have hc := fun W (hW : W = wr) => swapRTdr_any fv base g n cap p m j X' U1 U2 V' Y' W (by rw [hW]; have := HR'.out; rw [hUU] at this; simpa using this) HP.out hU1 (by have := HX.out; omega) HV.out hn
        have hL' : (X' ++ V') ++ U1 ++ U2 ++ Y' = X ++ V ++ U ++ Y := by rw [← HL.out, hUU]; simp
        have HUU := Lib.hid hUU
        have HU1 := Lib.hid hU1
        have HU2 := Lib.hid hU2
        have HL' := Lib.hid hL'
        have es : (i : Int) - j = ((i - j : Nat) : Int) := by omega
        have hgz : (j : Int) < (i : Int) := by omega
        clear hUU hU1 hU2 hL'
        go_wp2_with (go_at_call 68; refine (hc _ rfl).mono ?_; rintro e w2 ⟨rfl, hr2, hg2⟩)
        have HR2 := Lib.hid hr2
        have HG2 := Lib.hid (ztrans HG.out hg2)
        clear hr2 hg2
        go_roundw
        case rel => exact ⟨i - j, j, X' ++ V', U2, U1, Y', by first | rfl | (congr 1; omega), rfl, HU2.out, HU1.out, by omega, by omega, by have := HX.out; have := HP.out; have := HV.out; simp; omega, by omega, HL'.out, by simpa using HR2.out, HG2.out⟩
        case measure => simp [intOf]; omega
      · obtain ⟨V1, V2, hVV, hV2⟩ : ∃ V1 V2, V' = V1 ++ V2 ∧ V2.length = i := ⟨V'.take (j - i), V'.drop (j - i), (List.take_append_drop _ _).symm, by rw [List.length_drop]; have := HV.out; omega⟩
        have hV1 : V1.length = j - i := by have := HV.out; rw [hVV, List.length_append] at this; omega
        have hc := fun W (hW : W = wr) => swapRTdr_any fv base g n cap p (m + j - i) i X' U' V1 V2 Y' W (by rw [hW]; have := HR'.out; rw [hVV] at this; simpa using this) HP.out HU.out (by have := HX.out; omega) hV2 hn
        have hL' : X' ++ V1 ++ V2 ++ (U' ++ Y') = X ++ V ++ U ++ Y := by rw [← HL.out, hVV]; simp
        have HVV := Lib.hid hVV
        have HV1 := Lib.hid hV1
        have HV2 := Lib.hid hV2
        have HL' := Lib.hid hL'
        have es : (j : Int) - i = ((j - i : Nat) : Int) := by omega
        have es2 : (m : Int) + j - i = ((m + j - i : Nat) : Int) := by omega
        have hgz : ¬ (j : Int) < (i : Int) := by omega
        clear hVV hV1 hV2 hL'
        go_wp2_with (go_at_call 68; refine (hc _ rfl).mono ?_; rintro e w2 ⟨rfl, hr2, hg2⟩)
        have HR2 := Lib.hid hr2
        have HG2 := Lib.hid (ztrans HG.out hg2)
        clear hr2 hg2
        go_roundw
        case rel => exact ⟨i, j - i, X', V2, V1, U' ++ Y', rfl, by first | rfl | (congr 1; omega), HV2.out, HV1.out, by omega, by omega, by have := HX.out; have := HP.out; omega, by omega, HL'.out, by simpa using HR2.out, HG2.out⟩
        case measure => simp [intOf]; omega
end Go.Proofs.Ytkdbdncboljfhaa
