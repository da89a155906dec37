/- slices.stableCmpFunc and SortStableFunc at [](struct); printed by wip/gen/sortz2.py. -/
import Derived.Test.YtkdbdncboljfhaaStTdrE
import Derived.Test.YtkdbdncboljfhaaSortRz
namespace Go.Proofs.Ytkdbdncboljfhaa
open Go.RowKit
set_option linter.unusedVariables false
set_option linter.unusedSimpArgs false
set_option maxHeartbeats 8000000 in
set_option maxRecDepth 100000 in
theorem stableTdr_any (F : Nat) (cb : Array Value) (cf : Tdr → Tdr → Int) (Q : Tdr → Prop) (base g n cap : Nat) (D : List Tdr) (w : World)
    (eg : ∀ args w, (callFunc F args).run Try.prog w = .ok (.enter F args) w) (hcmp : CmpTdr F cb g cf Q w) (hW : Wk (ltz cf)) (hQ : ∀ x ∈ D, Q x)
    (hrow : RowTdr base g n cap D w) (hn : n ≤ 1000000000) :
    Calls Try.prog 35 #[.slice (some ⟨g, 0, none⟩) n cap, .int .i64 n, .func (.func F) #[] cb] w fun e w' => e = .returned (.tuple #[]) ∧ RowTdr base g n cap (srt (ltz cf) D) w' ∧ w.grownBy w' (some g) := by
  have hlen : D.length = n := hrow.2
  have HC := Lib.hid hcmp
  have HQ := Lib.hid hQ
  have HW := Lib.hid hW
  have HL := Lib.hid hlen
  have HR := Lib.hid hrow
  have HSY := Lib.hid (symMTdr_any F cb cf Q base g n cap eg hW hn n)
  clear hcmp hQ hW hrow hlen
  go_enter Try.func35, Try.ntmps35
  go_wp2
  go_loopw [7, 8] (fun av bv wr => ∃ (a : Nat) (P L R : List Tdr), av = .int .i64 a ∧ bv = .int .i64 (a + 20) ∧ a ≤ n ∧ BlZ (ltz cf) 20 P L ∧ P ++ R = D ∧ P.length = a ∧ RowTdr base g n cap (L ++ R) wr ∧ w.grownBy wr (some g)) (fun av _ _ => n - (intOf av).toNat)
  case atStart => exact ⟨0, [], [], D, rfl, rfl, by omega, .nil, rfl, rfl, HR.out, zrefl _ _⟩
  case round =>
    obtain ⟨a, P, L, R, rfl, rfl, han, hB, hD, hP, hr, hg⟩ := hrel
    have hPR : a + R.length = n := by have := HL.out; rw [← hD, List.length_append] at this; omega
    have hLl : L.length = a := by rw [hB.len]; exact hP
    by_cases hlt : a + 20 ≤ n
    · have hltz : (a : Int) + 20 ≤ n := by omega
      obtain ⟨d, R', hR', hd⟩ : ∃ d R', R = d ++ R' ∧ d.length = 20 := ⟨R.take 20, R.drop 20, (List.take_append_drop _ _).symm, by rw [List.length_take]; omega⟩
      rw [hR'] at hr hD
      have HB := Lib.hid (hB.snoc hd)
      have HD := Lib.hid (show (P ++ d) ++ R' = D by rw [List.append_assoc]; exact hD)
      have HP := Lib.hid (show (P ++ d).length = a + 20 by simp; omega)
      obtain ⟨b, hb⟩ : ∃ b : Nat, b = a + 20 := ⟨_, rfl⟩
      have hc := fun W (hW : w.grownBy W (some g)) (hR : RowTdr base g n cap (L ++ (d ++ R')) W) => insTdr_any F cb cf Q base g n cap a b L d R' W eg (HC.out.on hW) HW.out (fun x hx => HQ.out x (by rw [← HD.out]; simp [hx])) (by simpa using hR) hLl (by omega) hn
      have HROW := Lib.hid hr
      have HG := Lib.hid hg
      have ea : (a : Int) + 20 = (b : Int) := by omega
      have hbn : b ≤ n := by omega
      have hb20 : b + 20 ≤ 2000000000 := by omega
      have HBB := Lib.hid hb
      clear hr hg hR' hd hB hD hP hPR hLl hb
      go_wp2_with (go_at_call 42; refine (hc _ HG.out HROW.out).mono ?_; rintro e w2 ⟨rfl, hr2, hg2⟩)
      have HR2 := Lib.hid hr2
      have HG2 := Lib.hid (ztrans HG.out hg2)
      clear hr2 hg2 hc
      go_roundw
      case rel => exact ⟨b, P ++ d, L ++ srt (ltz cf) d, R', rfl, rfl, hbn, HB.out, HD.out, by rw [HBB.out]; exact HP.out, HR2.out, HG2.out⟩
      case measure => have := HBB.out; simp [intOf]; omega
    · have hltz : ¬ (a : Int) + 20 ≤ n := by omega
      have hc := fun W (hW : w.grownBy W (some g)) (hR : RowTdr base g n cap (L ++ R) W) => insTdr_any F cb cf Q base g n cap a n L R [] W eg (HC.out.on hW) HW.out (fun x hx => HQ.out x (by rw [← hD]; simp [hx])) (by simpa using hR) hLl hPR hn
      have HROW := Lib.hid hr
      have HG := Lib.hid hg
      have HB := Lib.hid hB
      have HD := Lib.hid hD
      have HRL := Lib.hid (show R.length < 20 by omega)
      clear hr hg hB hD hP hPR hLl
      go_wp2_with (go_at_call 42; refine (hc _ HG.out HROW.out).mono ?_; rintro e w2 ⟨rfl, hr2, hg2⟩)
      have HR2 := Lib.hid (show RowTdr base g n cap (L ++ srt (ltz cf) R) w2 by simpa using hr2)
      have HG2 := Lib.hid (ztrans HG.out hg2)
      clear hr2 hg2 hc HROW HG
      go_loopw [6, 7, 8, 9] (fun kv _ _ _ wr => ∃ (k : Nat) (P L R : List Tdr), kv = .int .i64 k ∧ 20 ≤ k ∧ k ≤ 4000000000 ∧ BlZ (ltz cf) k P L ∧ P ++ R = D ∧ R.length < k ∧ RowTdr base g n cap (L ++ srt (ltz cf) R) wr ∧ w.grownBy wr (some g)) (fun kv _ _ _ _ => n - (intOf kv).toNat)
      case atStart => exact ⟨20, P, L, R, rfl, by omega, by omega, HB.out, HD.out, HRL.out, HR2.out, HG2.out⟩
      case round =>
        clear HB HD HRL HR2 HG2 hlt hltz han
        obtain ⟨k, P, L, R, rfl, hk1, hk2, hB, hD, hRk, hr, hg⟩ := hrel
        have hPR : P.length + R.length = n := by have := HL.out; rw [← hD, List.length_append] at this; omega
        by_cases hkn : k < n
        · have hknz : (k : Int) < n := by omega
          obtain ⟨kk, hkk⟩ : ∃ kk : Nat, kk = 2 * k := ⟨_, rfl⟩
          have e2k : 2 * (k : Int) = (kk : Int) := by omega
          have ek2 : (k : Int) * 2 = (kk : Int) := by omega
          have hkkb : kk ≤ 2000000000 := by omega
          have HKK := Lib.hid hkk
          have HPR := Lib.hid hPR
          have HRK := Lib.hid hRk
          have HB := Lib.hid hB
          have HD := Lib.hid hD
          have HROW := Lib.hid hr
          have HG := Lib.hid hg
          clear hB hD hr hg hPR hkk hRk
          go_wp2
          go_loopw [7, 8] (fun av bv wr => ∃ (a : Nat) (E EL P' L' : List Tdr), av = .int .i64 a ∧ bv = .int .i64 ((a : Int) + kk) ∧ a ≤ n ∧ BlZ (ltz cf) kk E EL ∧ BlZ (ltz cf) k P' L' ∧ E ++ P' ++ R = D ∧ E.length = a ∧ RowTdr base g n cap (EL ++ L' ++ srt (ltz cf) R) wr ∧ w.grownBy wr (some g)) (fun av _ _ => n - (intOf av).toNat)
          case atStart => exact ⟨0, [], [], P, L, rfl, by go_num, by omega, .nil, HB.out, by simpa using HD.out, rfl, by simpa using HROW.out, HG.out⟩
          case round =>
            clear HB HD HROW HG HPR
            obtain ⟨a, E, EL, P', L', rfl, rfl, han, hE, hB, hD, hEa, hr, hg⟩ := hrel
            have hPR : a + P'.length + R.length = n := by have := HL.out; rw [← hD, List.length_append, List.length_append] at this; omega
            have hEL : EL.length = a := by rw [hE.len]; exact hEa
            obtain ⟨m, hm⟩ : ∃ m : Nat, m = a + k := ⟨_, rfl⟩
            have em : (a : Int) + k = (m : Int) := by omega
            have hkk := HKK.out
            have hRk := HRK.out
            by_cases hlt : a + kk ≤ n
            · obtain ⟨d1, d2, P2, L2, rfl, rfl, hd1, hd2, hB2⟩ := hB.two (by omega) hRk (by omega)
              obtain ⟨b, hb⟩ : ∃ b : Nat, b = a + kk := ⟨_, rfl⟩
              have eb : (a : Int) + kk = (b : Int) := by omega
              have hbn : b ≤ n := by omega
              have hbnz : (b : Int) ≤ n := by omega
              have hc := fun W (hW : w.grownBy W (some g)) (hR : RowTdr base g n cap (EL ++ (srt (ltz cf) d1 ++ srt (ltz cf) d2 ++ L2) ++ srt (ltz cf) R) W) => HSY.out a m b EL (srt (ltz cf) d1) (srt (ltz cf) d2) (L2 ++ srt (ltz cf) R) W (by omega) (HC.out.on hW) (fun y hy => HQ.out y (by rw [← hD]; simp [(srt_mem _ _).1 hy])) (fun y hy => HQ.out y (by rw [← hD]; simp [(srt_mem _ _).1 hy])) (srt_asc HW.out _) (srt_asc HW.out _) (by rw [srt_length]; omega) (by rw [srt_length]; omega) (by simpa using hR) hEL (by rw [srt_length]; omega) (by rw [srt_length]; omega)
              have HE := Lib.hid (hE.snoc (d := d1 ++ d2) (by simp; omega))
              have HSA := Lib.hid (srt_append HW.out d1 d2)
              have HB2 := Lib.hid hB2
              have HD := Lib.hid (show E ++ (d1 ++ d2) ++ P2 ++ R = D by rw [← hD]; simp)
              have HEb := Lib.hid (show (E ++ (d1 ++ d2)).length = b by simp; omega)
              have HROW := Lib.hid hr
              have HG := Lib.hid hg
              have HBB := Lib.hid hb
              clear hE hB2 hB hD hEa hr hg hPR hEL hd1 hd2 hb hm hkk hRk
              go_wp2_with (go_at_call 43; refine (hc _ HG.out HROW.out).mono ?_; rintro e w2 ⟨rfl, hr2, hg2⟩)
              have HR2 := Lib.hid hr2
              have HG2 := Lib.hid (ztrans HG.out hg2)
              clear hr2 hg2 hc
              go_roundw
              case rel => exact ⟨b, E ++ (d1 ++ d2), EL ++ srt (ltz cf) (d1 ++ d2), P2, L2, rfl, rfl, hbn, HE.out, HB2.out, HD.out, HEb.out, by rw [HSA.out]; simpa using HR2.out, HG2.out⟩
              case measure => have := HBB.out; have := HKK.out; simp [intOf]; omega
            · have hlt2 : ¬ (a : Int) + kk ≤ n := by omega
              rcases hB.one (by omega) (r := R.length) (by omega) with ⟨rfl, rfl⟩ | ⟨hPk, rfl⟩
              · have hmn : ¬ m < n := by simp at hPR; omega
                have hmnz : ¬ (m : Int) < n := by omega
                have HE := Lib.hid hE
                have HD := Lib.hid (show E ++ R = D by simpa using hD)
                have HRK2 := Lib.hid (show R.length < kk by omega)
                have HROW := Lib.hid (show RowTdr base g n cap (EL ++ srt (ltz cf) R) wr by simpa using hr)
                have HG := Lib.hid hg
                clear hE hD hr hg hPR hEL hEa hm hkk hRk hB
                go_wp2
                go_roundw
                case rel => exact ⟨kk, E, EL, R, rfl, by have := HKK.out; omega, by omega, HE.out, HD.out, HRK2.out, HROW.out, HG.out⟩
                case measure => have := HKK.out; simp [intOf]; omega
              · have HE := Lib.hid hE
                have HSA := Lib.hid (srt_append HW.out P' R)
                have HD := Lib.hid (show E ++ (P' ++ R) = D by rw [← hD]; simp)
                have HRK2 := Lib.hid (show (P' ++ R).length < kk by rw [List.length_append]; omega)
                have HROW := Lib.hid hr
                have HG := Lib.hid hg
                by_cases hmn : m < n
                · have hmnz : (m : Int) < n := by omega
                  have hc := fun W (hW : w.grownBy W (some g)) (hR : RowTdr base g n cap (EL ++ srt (ltz cf) P' ++ srt (ltz cf) R) W) => HSY.out a m n EL (srt (ltz cf) P') (srt (ltz cf) R) [] W (by omega) (HC.out.on hW) (fun y hy => HQ.out y (by rw [← hD]; simp [(srt_mem _ _).1 hy])) (fun y hy => HQ.out y (by rw [← hD]; simp [(srt_mem _ _).1 hy])) (srt_asc HW.out _) (srt_asc HW.out _) (by rw [srt_length]; omega) (by rw [srt_length]; omega) (by simpa using hR) hEL (by rw [srt_length]; omega) (by rw [srt_length]; omega)
                  clear hE hD hr hg hPR hEL hEa hm hkk hRk hB hPk
                  go_wp2_with (go_at_call 43; refine (hc _ HG.out HROW.out).mono ?_; rintro e w2 ⟨rfl, hr2, hg2⟩)
                  have HR2 := Lib.hid hr2
                  have HG2 := Lib.hid (ztrans HG.out hg2)
                  clear hr2 hg2 hc
                  go_roundw
                  case rel => exact ⟨kk, E, EL, P' ++ R, rfl, by have := HKK.out; omega, by omega, HE.out, HD.out, HRK2.out, by rw [HSA.out]; simpa using HR2.out, HG2.out⟩
                  case measure => have := HKK.out; simp [intOf]; omega
                · have hmnz : ¬ (m : Int) < n := by omega
                  have hR0 : R = [] := List.eq_nil_of_length_eq_zero (by omega)
                  have HR3 := Lib.hid (show RowTdr base g n cap (EL ++ srt (ltz cf) (P' ++ R)) wr by subst hR0; simpa [srt] using hr)
                  clear hE hD hr hg hPR hEL hEa hm hkk hRk hB hPk hR0
                  go_wp2
                  go_roundw
                  case rel => exact ⟨kk, E, EL, P' ++ R, rfl, by have := HKK.out; omega, by omega, HE.out, HD.out, HRK2.out, HR3.out, HG.out⟩
                  case measure => have := HKK.out; simp [intOf]; omega
        · have hknz : ¬ (k : Int) < n := by omega
          have hfin := hB.all HW.out (by omega) (R := R) (by omega)
          rw [hfin, hD] at hr
          have HROW := Lib.hid hr
          have HG := Lib.hid hg
          clear hB hD hPR hfin hr hg
          go_wp2
          go_end0
          exact ⟨rfl, HROW.out, HG.out⟩
theorem sortStableTdr_any (F : Nat) (cb : Array Value) (cf : Tdr → Tdr → Int) (Q : Tdr → Prop) (base g n cap : Nat) (D : List Tdr) (w : World)
    (eg : ∀ args w, (callFunc F args).run Try.prog w = .ok (.enter F args) w) (hcmp : CmpTdr F cb g cf Q w) (hW : Wk (ltz cf)) (hQ : ∀ x ∈ D, Q x)
    (hrow : RowTdr base g n cap D w) (hn : n ≤ 1000000000) :
    Calls Try.prog 20 #[.slice (some ⟨g, 0, none⟩) n cap, .func (.func F) #[] cb] w fun e w' => e = .returned (.tuple #[]) ∧ RowTdr base g n cap (srt (ltz cf) D) w' ∧ w.grownBy w' (some g) := by
  have HC := Lib.hid (stableTdr_any F cb cf Q base g n cap D w eg hcmp hW hQ hrow hn)
  clear hcmp hW hQ hrow
  go_enter Try.func20, Try.ntmps20
  go_wp2_with (go_at_call 35; refine HC.out.mono ?_; rintro e w2 ⟨rfl, hr2, hg2⟩)
  go_end0
  exact ⟨rfl, hr2, hg2⟩
end Go.Proofs.Ytkdbdncboljfhaa
